/- Transactions: what is put is got, plainly. -/
import Derived.Test.YtkcapmodgkficaaTxD
namespace Go.Proofs.Ytkcapmodgkficaa
open Go.Vx Go.Fl
set_option maxRecDepth 100000
set_option linter.unusedSimpArgs false
set_option linter.unusedVariables false

theorem takeP_app (l r : List UInt8) : takeP l.length (l ++ r, 0) = (some l, (r, 0)) := by
  unfold takeP
  simp
theorem numP_put (k n : Nat) (hn : n < 256 ^ k) (r : List UInt8) : numP k (lowB k n ++ r, 0) = (n, (r, 0)) := by
  have h := takeP_app (lowB k n) r
  rw [lowB_length] at h
  unfold numP
  rw [h]
  simp only [leVal_lowB, Nat.mod_eq_of_lt hn]
theorem hashP_put (h r : List UInt8) (hl : h.length = 32) : hashP (h ++ r, 0) = (h, (r, 0)) := by
  have ht := takeP_app h r
  rw [hl] at ht
  unfold hashP
  rw [ht]
theorem scriptP_put (s r : List UInt8) (hl : s.length ≤ 10000) : scriptP (putN s.length ++ s ++ r, 0) = (some s, (r, 0)) := by
  have hb : bytesN (putN s.length ++ s ++ r) 10000 = (s, sizeN s.length + s.length, 0) := by
    have h1 : boundN (putN s.length ++ s ++ r) (10000 : Int).toNat = (s.length, sizeN s.length, 0) := by
      rw [List.append_assoc, boundN_put _ _ (by omega), if_neg (by simp only [Int.reduceToNat]; omega)]
    have h2 : ((putN s.length ++ s ++ r).drop (sizeN s.length)).take s.length = s := by
      rw [List.append_assoc, ← putN_length, List.drop_left, List.take_left]
    have h3 : ¬ (putN s.length ++ s ++ r).length < sizeN s.length + s.length := by
      rw [List.length_append, List.length_append, putN_length]; omega
    unfold bytesN
    rw [h1]
    simp only [ne_eq, not_true_eq_false, if_false, h3, h2]
    rw [if_neg (by omega)]
  unfold scriptP
  simp only [if_true, hb]
  congr 2
  rw [← putN_length, ← List.length_append, List.drop_left]

theorem stepI_put (x : TIn) (hx : InOk x) (hs : x.2.2.1.length ≤ 10000) (r : List UInt8) (acc : List TIn) : stepI ((inB x ++ r, 0), acc) = ((r, 0), acc ++ [x]) := by
  obtain ⟨h, i, s, q⟩ := x
  obtain ⟨h1, h2, h3⟩ := hx
  simp only at h1 h2 h3 hs
  have e : inB (h, i, s, q) ++ r = h ++ (lowB 4 i ++ ((putN s.length ++ s) ++ (lowB 4 q ++ r))) := by simp [inB]
  unfold stepI
  rw [e]
  simp only [hashP_put _ _ h1, numP_put 4 i (by omega), scriptP_put s _ hs, numP_put 4 q (by omega), Option.getD_some]
theorem stepO_put (x : TOut) (hx : OutOk x) (hs : x.2.length ≤ 10000) (r : List UInt8) (acc : List TOut) : stepO ((outB x ++ r, 0), acc) = ((r, 0), acc ++ [x]) := by
  obtain ⟨i, s⟩ := x
  have h1 : i ≤ 18446744073709551615 := hx
  simp only at hs
  have e : outB (i, s) ++ r = lowB 8 i ++ ((putN s.length ++ s) ++ r) := by simp [outB]
  unfold stepO
  rw [e]
  simp only [numP_put 8 i (by omega), scriptP_put s _ hs, Option.getD_some]
theorem iterI_put (l : List TIn) (h : ∀ x ∈ l, InOk x ∧ x.2.2.1.length ≤ 10000) (r : List UInt8) (acc : List TIn) : iterP Prod.fst stepI l.length ((l.flatMap inB ++ r, 0), acc) = ((r, 0), acc ++ l) := by
  induction l generalizing acc with
  | nil => simp [iterP]
  | cons x l ih =>
    obtain ⟨h1, h2⟩ := h x (by simp)
    rw [List.length_cons, iterP, if_pos rfl, List.flatMap_cons, List.append_assoc, stepI_put x h1 h2, ih fun y hy => h y (by simp [hy])]
    simp
theorem iterO_put (l : List TOut) (h : ∀ x ∈ l, OutOk x ∧ x.2.length ≤ 10000) (r : List UInt8) (acc : List TOut) : iterP Prod.fst stepO l.length ((l.flatMap outB ++ r, 0), acc) = ((r, 0), acc ++ l) := by
  induction l generalizing acc with
  | nil => simp [iterP]
  | cons x l ih =>
    obtain ⟨h1, h2⟩ := h x (by simp)
    rw [List.length_cons, iterP, if_pos rfl, List.flatMap_cons, List.append_assoc, stepO_put x h1 h2, ih fun y hy => h y (by simp [hy])]
    simp
theorem getI_put (l : List TIn) (h : ∀ x ∈ l, InOk x ∧ x.2.2.1.length ≤ 10000) (h1 : 1 ≤ l.length) (h2 : l.length ≤ 1000) (r : List UInt8) : getI (putN l.length ++ (l.flatMap inB ++ r), 0) = ((r, 0), l) := by
  have hb : boundN (putN l.length ++ (l.flatMap inB ++ r)) 1000 = (l.length, sizeN l.length, 0) := by
    rw [boundN_put _ _ (by omega), if_neg (by omega)]
  unfold getI manyP
  simp only [hb, if_true]
  rw [if_neg (by omega), ← putN_length, List.drop_left, iterI_put l h]
  simp
theorem getO_put (l : List TOut) (h : ∀ x ∈ l, OutOk x ∧ x.2.length ≤ 10000) (h2 : l.length ≤ 1000) (r : List UInt8) : getO (putN l.length ++ (l.flatMap outB ++ r), 0) = ((r, 0), l) := by
  have hb : boundN (putN l.length ++ (l.flatMap outB ++ r)) 1000 = (l.length, sizeN l.length, 0) := by
    rw [boundN_put _ _ (by omega), if_neg (by omega)]
  unfold getO manyP
  simp only [hb, if_true]
  rw [if_neg (by omega), ← putN_length, List.drop_left, iterO_put l h]
  simp
/-- What is put is got again. -/
theorem getT_put (t : TxT) (ht : TxOk t) (hs : saneT t = true) (more : List UInt8) : getT (txB t ++ more) = (t, (txB t).length, 0) := by
  obtain ⟨ver, ins, outs, lock⟩ := t
  obtain ⟨hv, hi, ho, hk⟩ := ht
  obtain ⟨s1, s2, s3, s4, s5⟩ := saneT_facts hs
  simp only at hv hi ho hk s1 s2 s3 s4 s5
  have e : txB (ver, ins, outs, lock) ++ more = lowB 4 ver ++ (putN ins.length ++ (ins.flatMap inB ++ (putN outs.length ++ (outs.flatMap outB ++ (lowB 4 lock ++ more))))) := by simp [txB]
  have e1 := numP_put 4 ver (by omega) (putN ins.length ++ (ins.flatMap inB ++ (putN outs.length ++ (outs.flatMap outB ++ (lowB 4 lock ++ more)))))
  have e2 := getI_put ins (fun x hx => ⟨hi x hx, s4 x hx⟩) s1 s2 (putN outs.length ++ (outs.flatMap outB ++ (lowB 4 lock ++ more)))
  have e3 := getO_put outs (fun x hx => ⟨ho x hx, s5 x hx⟩) s3 (lowB 4 lock ++ more)
  have e4 := numP_put 4 lock (by omega) more
  have el : (txB (ver, ins, outs, lock) ++ more).length - more.length = (txB (ver, ins, outs, lock)).length := by rw [List.length_append]; omega
  unfold getT
  rw [← el]
  rw [e]
  simp only [e1, e2, e3, e4, if_true]
end Go.Proofs.Ytkcapmodgkficaa
