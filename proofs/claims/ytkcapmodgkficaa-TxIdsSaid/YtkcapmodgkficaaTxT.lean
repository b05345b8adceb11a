/- Transactions: a beginning is short, plainly. -/
import Derived.Test.YtkcapmodgkficaaTxO
namespace Go.Proofs.Ytkcapmodgkficaa
open Go.Vx Go.Fl
set_option maxRecDepth 100000
set_option linter.unusedSimpArgs false
set_option linter.unusedVariables false

theorem takeP_keep {n : Nat} {R : RdT} (h : R.2 ≠ 0) : (takeP n R).2 = R := by unfold takeP; rw [if_neg h]
theorem numP_keep {n : Nat} {R : RdT} (h : R.2 ≠ 0) : (numP n R).2 = R := takeP_keep h
theorem hashP_keep {R : RdT} (h : R.2 ≠ 0) : (hashP R).2 = R := takeP_keep h
theorem scriptP_keep {R : RdT} (h : R.2 ≠ 0) : (scriptP R).2 = R := by unfold scriptP; rw [if_neg h]
theorem getI_keep {R : RdT} (h : R.2 ≠ 0) : (getI R).1 = R := by unfold getI manyP; rw [if_neg h]
theorem getO_keep {R : RdT} (h : R.2 ≠ 0) : (getO R).1 = R := by unfold getO manyP; rw [if_neg h]
theorem takeP_short {n : Nat} {l : List UInt8} (h : l.length < n) : (takeP n (l, 0)).2.2 = 1 := by unfold takeP; simp [h]
theorem boundN_short (n i q : Nat) (hn : n < 18446744073709551616) (hi : i < sizeN n) : (boundN ((putN n).take i) q).2.2 = 1 := by
  have h := getN_short n i hi
  unfold boundN
  rw [if_pos (by omega)]; exact h
theorem scriptP_short (s : List UInt8) (i : Nat) (hl : s.length ≤ 10000) (hi : i < (putN s.length ++ s).length) : (scriptP ((putN s.length ++ s).take i, 0)).2.2 = 1 := by
  rw [List.length_append, putN_length] at hi
  have hb : (bytesN ((putN s.length ++ s).take i) 10000).2.2 = 1 := by
    by_cases h1 : i < sizeN s.length
    · rw [List.take_append_of_le_length (by rw [putN_length]; omega)]
      have h := boundN_short s.length i (10000 : Int).toNat (by omega) h1
      unfold bytesN
      rw [if_pos (by omega)]; exact h
    · have e : (putN s.length ++ s).take i = putN s.length ++ s.take (i - sizeN s.length) := by
        rw [List.take_append, putN_length, List.take_of_length_le (by rw [putN_length]; omega)]
      have h2 : boundN (putN s.length ++ s.take (i - sizeN s.length)) (10000 : Int).toNat = (s.length, sizeN s.length, 0) := by
        rw [boundN_put _ _ (by omega), if_neg (by simp only [Int.reduceToNat]; omega)]
      have h3 : (putN s.length ++ s.take (i - sizeN s.length)).length < sizeN s.length + s.length := by
        rw [List.length_append, putN_length, List.length_take]; omega
      rw [e]
      unfold bytesN
      rw [h2]
      simp only [ne_eq, not_true_eq_false, if_false, h3, if_true]
      rw [if_neg (by omega)]
  unfold scriptP
  simp only [if_true]
  rw [if_neg (by omega)]; exact hb
theorem take_lt {p q : List UInt8} {j : Nat} (h : j < p.length) : (p ++ q).take j = p.take j := by
  rw [List.take_append_of_le_length (by omega)]
theorem take_ge {p q : List UInt8} {j : Nat} (h : ¬ j < p.length) : (p ++ q).take j = p ++ q.take (j - p.length) := by
  rw [List.take_append, List.take_of_length_le (by omega)]
theorem numP_short (k n j : Nat) (h : j < k) : (numP k ((lowB k n).take j, 0)).2.2 = 1 :=
  takeP_short (by rw [List.length_take, lowB_length]; omega)
theorem hashP_short (l : List UInt8) (j : Nat) (h : j < 32) : (hashP (l.take j, 0)).2.2 = 1 :=
  takeP_short (by rw [List.length_take]; omega)
theorem stepI_short (x : TIn) (hx : InOk x) (hs : x.2.2.1.length ≤ 10000) (j : Nat) (hj : j < (inB x).length) (acc : List TIn) : (stepI (((inB x).take j, 0), acc)).1.2 = 1 := by
  obtain ⟨h, i, s, q⟩ := x
  obtain ⟨h1, h2, h3⟩ := hx
  simp only at h1 h2 h3 hs
  have e : inB (h, i, s, q) = h ++ (lowB 4 i ++ ((putN s.length ++ s) ++ lowB 4 q)) := by simp [inB]
  have el : (inB (h, i, s, q)).length = 32 + (4 + ((putN s.length ++ s).length + 4)) := by rw [e, List.length_append, List.length_append, List.length_append, lowB_length, lowB_length, h1]
  rw [el] at hj
  rw [e]
  unfold stepI
  simp only
  by_cases c1 : j < h.length
  · rw [take_lt c1]
    have E := hashP_short h j (by omega)
    rw [numP_keep (by rw [scriptP_keep (by rw [numP_keep (by omega)]; omega), numP_keep (by omega)]; omega), scriptP_keep (by rw [numP_keep (by omega)]; omega), numP_keep (by omega)]
    exact E
  · rw [take_ge c1, hashP_put _ _ h1]
    simp only
    by_cases c2 : j - h.length < (lowB 4 i).length
    · rw [take_lt c2]
      rw [lowB_length] at c2
      have E := numP_short 4 i (j - h.length) c2
      rw [numP_keep (by rw [scriptP_keep (by omega)]; omega), scriptP_keep (by omega)]
      exact E
    · rw [take_ge c2, numP_put 4 i (by omega)]
      simp only
      rw [lowB_length] at c2 ⊢
      by_cases c3 : j - h.length - 4 < (putN s.length ++ s).length
      · rw [take_lt c3]
        have E := scriptP_short s _ hs c3
        rw [numP_keep (by omega)]
        exact E
      · rw [take_ge c3, scriptP_put s _ hs]
        simp only
        exact numP_short 4 q _ (by omega)
theorem stepO_short (x : TOut) (hx : OutOk x) (hs : x.2.length ≤ 10000) (j : Nat) (hj : j < (outB x).length) (acc : List TOut) : (stepO (((outB x).take j, 0), acc)).1.2 = 1 := by
  obtain ⟨i, s⟩ := x
  have h1 : i ≤ 18446744073709551615 := hx
  simp only at hs
  have e : outB (i, s) = lowB 8 i ++ (putN s.length ++ s) := by simp [outB]
  have el : (outB (i, s)).length = 8 + (putN s.length ++ s).length := by rw [e, List.length_append, lowB_length]
  rw [el] at hj
  rw [e]
  unfold stepO
  simp only
  by_cases c2 : j < (lowB 8 i).length
  · rw [take_lt c2]
    rw [lowB_length] at c2
    have E := numP_short 8 i j c2
    rw [scriptP_keep (by omega)]
    exact E
  · rw [take_ge c2, numP_put 8 i (by omega)]
    simp only
    rw [lowB_length] at c2 ⊢
    exact scriptP_short s _ hs (by omega)
theorem iterI_short (l : List TIn) (h : ∀ x ∈ l, InOk x ∧ x.2.2.1.length ≤ 10000) (j : Nat) (hj : j < (l.flatMap inB).length) (acc : List TIn) : (iterP Prod.fst stepI l.length (((l.flatMap inB).take j, 0), acc)).1.2 = 1 := by
  induction l generalizing acc j with
  | nil => simp at hj
  | cons x l ih =>
    obtain ⟨h1, h2⟩ := h x (by simp)
    rw [List.length_cons, iterP, if_pos rfl]
    rw [List.flatMap_cons] at hj ⊢
    by_cases c : j < (inB x).length
    · rw [take_lt c]
      have E := stepI_short x h1 h2 j c acc
      rw [iterP_stop _ _ _ (by omega)]; exact E
    · rw [take_ge c, stepI_put x h1 h2]
      rw [List.length_append] at hj
      exact ih (fun y hy => h y (by simp [hy])) _ (by omega) _
theorem iterO_short (l : List TOut) (h : ∀ x ∈ l, OutOk x ∧ x.2.length ≤ 10000) (j : Nat) (hj : j < (l.flatMap outB).length) (acc : List TOut) : (iterP Prod.fst stepO l.length (((l.flatMap outB).take j, 0), acc)).1.2 = 1 := by
  induction l generalizing acc j with
  | nil => simp at hj
  | cons x l ih =>
    obtain ⟨h1, h2⟩ := h x (by simp)
    rw [List.length_cons, iterP, if_pos rfl]
    rw [List.flatMap_cons] at hj ⊢
    by_cases c : j < (outB x).length
    · rw [take_lt c]
      have E := stepO_short x h1 h2 j c acc
      rw [iterP_stop _ _ _ (by omega)]; exact E
    · rw [take_ge c, stepO_put x h1 h2]
      rw [List.length_append] at hj
      exact ih (fun y hy => h y (by simp [hy])) _ (by omega) _
theorem getI_short (l : List TIn) (h : ∀ x ∈ l, InOk x ∧ x.2.2.1.length ≤ 10000) (h1 : 1 ≤ l.length) (h2 : l.length ≤ 1000) (j : Nat) (hj : j < (putN l.length ++ l.flatMap inB).length) : (getI ((putN l.length ++ l.flatMap inB).take j, 0)).1.2 = 1 := by
  by_cases c : j < (putN l.length).length
  · rw [take_lt c]
    rw [putN_length] at c
    have hb := boundN_short l.length j 1000 (by omega) c
    unfold getI manyP
    simp only [if_true]
    rw [if_neg (by omega)]; exact hb
  · rw [take_ge c]
    have hb : boundN (putN l.length ++ (l.flatMap inB).take (j - (putN l.length).length)) 1000 = (l.length, sizeN l.length, 0) := by
      rw [boundN_put _ _ (by omega), if_neg (by omega)]
    unfold getI manyP
    simp only [hb, if_true]
    rw [if_neg (by omega), ← putN_length, List.drop_left]
    rw [List.length_append] at hj
    exact iterI_short l h _ (by omega) _
theorem getO_short (l : List TOut) (h : ∀ x ∈ l, OutOk x ∧ x.2.length ≤ 10000) (h2 : l.length ≤ 1000) (j : Nat) (hj : j < (putN l.length ++ l.flatMap outB).length) : (getO ((putN l.length ++ l.flatMap outB).take j, 0)).1.2 = 1 := by
  by_cases c : j < (putN l.length).length
  · rw [take_lt c]
    rw [putN_length] at c
    have hb := boundN_short l.length j 1000 (by omega) c
    unfold getO manyP
    simp only [if_true]
    rw [if_neg (by omega)]; exact hb
  · rw [take_ge c]
    have hb : boundN (putN l.length ++ (l.flatMap outB).take (j - (putN l.length).length)) 1000 = (l.length, sizeN l.length, 0) := by
      rw [boundN_put _ _ (by omega), if_neg (by omega)]
    unfold getO manyP
    simp only [hb, if_true]
    rw [if_neg (by omega), ← putN_length, List.drop_left]
    rw [List.length_append] at hj
    exact iterO_short l h _ (by omega) _
/-- A beginning is short. -/
theorem getT_short (t : TxT) (ht : TxOk t) (hs : saneT t = true) (j : Nat) (hj : j < (txB t).length) : (getT ((txB t).take j)).2.2 = 1 := by
  obtain ⟨ver, ins, outs, lock⟩ := t
  obtain ⟨hv, hi, ho, hk⟩ := ht
  obtain ⟨s1, s2, s3, s4, s5⟩ := saneT_facts hs
  simp only at hv hi ho hk s1 s2 s3 s4 s5
  have e : txB (ver, ins, outs, lock) = lowB 4 ver ++ ((putN ins.length ++ ins.flatMap inB) ++ ((putN outs.length ++ outs.flatMap outB) ++ lowB 4 lock)) := by simp [txB]
  rw [e] at hj
  have hj2 : j < 4 + ((putN ins.length ++ ins.flatMap inB).length + ((putN outs.length ++ outs.flatMap outB).length + 4)) := by
    simp only [List.length_append, lowB_length] at hj ⊢; omega
  clear hj
  rw [e]
  have E : (numP 4 (getO (getI (numP 4 ((lowB 4 ver ++ ((putN ins.length ++ ins.flatMap inB) ++ ((putN outs.length ++ outs.flatMap outB) ++ lowB 4 lock))).take j, 0)).2).1).1).2.2 = 1 := by
    by_cases c1 : j < (lowB 4 ver).length
    · rw [take_lt c1]
      rw [lowB_length] at c1
      have E := numP_short 4 ver j c1
      rw [numP_keep (by rw [getO_keep (by rw [getI_keep (by omega)]; omega), getI_keep (by omega)]; omega), getO_keep (by rw [getI_keep (by omega)]; omega), getI_keep (by omega)]
      exact E
    · rw [take_ge c1, numP_put 4 ver (by omega)]
      simp only
      rw [lowB_length] at c1 ⊢
      by_cases c2 : j - 4 < (putN ins.length ++ ins.flatMap inB).length
      · rw [take_lt c2]
        have E := getI_short ins (fun x hx => ⟨hi x hx, s4 x hx⟩) s1 s2 (j - 4) c2
        rw [numP_keep (by rw [getO_keep (by omega)]; omega), getO_keep (by omega)]
        exact E
      · rw [take_ge c2, List.append_assoc, getI_put ins (fun x hx => ⟨hi x hx, s4 x hx⟩) s1 s2]
        simp only
        by_cases c3 : j - 4 - (putN ins.length ++ ins.flatMap inB).length < (putN outs.length ++ outs.flatMap outB).length
        · rw [take_lt c3]
          have E := getO_short outs (fun x hx => ⟨ho x hx, s5 x hx⟩) s3 _ c3
          rw [numP_keep (by omega)]
          exact E
        · rw [take_ge c3, List.append_assoc, getO_put outs (fun x hx => ⟨ho x hx, s5 x hx⟩) s3]
          simp only
          exact numP_short 4 lock _ (by omega)
  unfold getT
  rw [if_neg (by omega)]; exact E
end Go.Proofs.Ytkcapmodgkficaa
