/- Transactions: no other bytes are got, plainly. -/
import Derived.Test.YtkcapmodgkficaaTxL
namespace Go.Proofs.Ytkcapmodgkficaa
open Go.Vx Go.Fl
set_option maxRecDepth 100000
set_option linter.unusedSimpArgs false
set_option linter.unusedVariables false

theorem takeP_once {n : Nat} {R : RdT} (h : (takeP n R).2.2 = 0) : R.2 = 0 ∧ ∃ l, (takeP n R).1 = some l ∧ l.length = n ∧ R.1 = l ++ (takeP n R).2.1 := by
  unfold takeP at h ⊢
  split at h
  · rename_i h0
    split at h
    · cases h
    · rename_i h1
      rw [if_pos h0, if_neg h1]
      exact ⟨h0, _, rfl, by rw [List.length_take]; omega, (List.take_append_drop _ _).symm⟩
  · rename_i h0; exact absurd h h0
theorem numP_once {n : Nat} {R : RdT} (h : (numP n R).2.2 = 0) : R.2 = 0 ∧ R.1 = lowB n (numP n R).1 ++ (numP n R).2.1 := by
  obtain ⟨h0, l, h1, h2, h3⟩ := takeP_once h
  refine ⟨h0, ?_⟩
  unfold numP
  simp only [h1]
  rw [← h2, lowB_leVal, h2]; exact h3
theorem hashP_once {R : RdT} (h : (hashP R).2.2 = 0) : R.2 = 0 ∧ R.1 = (hashP R).1 ++ (hashP R).2.1 := by
  obtain ⟨h0, l, h1, h2, h3⟩ := takeP_once h
  refine ⟨h0, ?_⟩
  unfold hashP
  simp only [h1]; exact h3
theorem boundN_once {l : List UInt8} {m : Nat} (h : (boundN l m).2.2 = 0) : l = putN (boundN l m).1 ++ l.drop (boundN l m).2.1 ∧ (boundN l m).1 ≤ m := by
  unfold boundN at h ⊢
  split at h
  · rename_i h0; exact absurd h h0
  · rename_i h0
    split at h
    · cases h
    · rename_i h1
      rw [if_neg h0, if_neg h1]
      have h2 := (getN_once l (by omega)).2
      simp only
      rw [h2]
      exact ⟨(List.take_append_drop _ _).symm, by omega⟩
theorem bytesN_once {l : List UInt8} (h : (bytesN l 10000).2.2 = 0) : l = putN (bytesN l 10000).1.length ++ (bytesN l 10000).1 ++ l.drop (bytesN l 10000).2.1 ∧ (bytesN l 10000).1.length ≤ 10000 := by
  unfold bytesN at h ⊢
  split at h
  · rename_i h0; exact absurd h h0
  · rename_i h0
    split at h
    · cases h
    · rename_i h1
      split at h
      · cases h
      · rename_i h2
        rw [if_neg h0, if_neg h1, if_neg h2]
        obtain ⟨h3, h4⟩ := boundN_once (l := l) (m := (10000 : Int).toNat) (by omega)
        simp only at h4 ⊢
        generalize boundN l (10000 : Int).toNat = B at *
        obtain ⟨n, k, z⟩ := B
        simp only at h2 h3 h4 ⊢
        have h5 : ((l.drop k).take n).length = n := by rw [List.length_take, List.length_drop]; omega
        rw [h5]
        refine ⟨?_, by omega⟩
        rw [List.append_assoc, ← List.drop_drop, List.take_append_drop]
        exact h3
theorem scriptP_once {R : RdT} (h : (scriptP R).2.2 = 0) : R.2 = 0 ∧ ∃ s, (scriptP R).1 = some s ∧ s.length ≤ 10000 ∧ R.1 = putN s.length ++ s ++ (scriptP R).2.1 := by
  unfold scriptP at h ⊢
  split at h
  · rename_i h0
    split at h
    · rename_i h1
      rw [if_pos h0, if_pos h1]
      obtain ⟨h2, h3⟩ := bytesN_once h1
      exact ⟨h0, _, rfl, h3, h2⟩
    · rename_i h1; exact absurd h h1
  · rename_i h0; exact absurd h h0
theorem stepI_once {a : RdT × List TIn} (h : (stepI a).1.2 = 0) : a.1.2 = 0 ∧ ∃ x, (stepI a).2 = a.2 ++ [x] ∧ a.1.1 = inB x ++ (stepI a).1.1 ∧ InOk x ∧ x.2.2.1.length ≤ 10000 := by
  unfold stepI at h ⊢
  simp only at h ⊢
  obtain ⟨a4, b4⟩ := numP_once h
  obtain ⟨a3, s, c3, d3, b3⟩ := scriptP_once a4
  obtain ⟨a2, b2⟩ := numP_once a3
  obtain ⟨a1, b1⟩ := hashP_once a2
  refine ⟨a1, _, rfl, ?_, ⟨hashP_32 _, ?_, ?_⟩, by rw [c3]; exact d3⟩
  · unfold inB
    simp only [c3, Option.getD_some]
    rw [b1]
    simp only [List.append_assoc]
    congr 1
    rw [List.append_assoc] at b3
    rw [← b4, ← b3]; exact b2
  · have := numP_lt 4 (hashP a.1).2
    simp only; omega
  · have := numP_lt 4 (scriptP (numP 4 (hashP a.1).2).2).2
    simp only; omega
theorem stepO_once {a : RdT × List TOut} (h : (stepO a).1.2 = 0) : a.1.2 = 0 ∧ ∃ x, (stepO a).2 = a.2 ++ [x] ∧ a.1.1 = outB x ++ (stepO a).1.1 ∧ OutOk x ∧ x.2.length ≤ 10000 := by
  unfold stepO at h ⊢
  simp only at h ⊢
  obtain ⟨a3, s, c3, d3, b3⟩ := scriptP_once h
  obtain ⟨a2, b2⟩ := numP_once a3
  refine ⟨a2, _, rfl, ?_, ?_, by rw [c3]; exact d3⟩
  · unfold outB
    simp only [c3, Option.getD_some, List.append_assoc]
    rw [List.append_assoc] at b3
    rw [← b3]; exact b2
  · have := numP_lt 8 a.1
    unfold OutOk
    simp only; omega
theorem iterI_once {n : Nat} {a : RdT × List TIn} (h : (iterP Prod.fst stepI n a).1.2 = 0) : a.1.2 = 0 ∧ ∃ l, l.length = n ∧ (iterP Prod.fst stepI n a).2 = a.2 ++ l ∧ a.1.1 = l.flatMap inB ++ (iterP Prod.fst stepI n a).1.1 ∧ ∀ x ∈ l, InOk x ∧ x.2.2.1.length ≤ 10000 := by
  induction n generalizing a with
  | zero => exact ⟨h, [], rfl, by simp [iterP], by simp [iterP], fun x hx => by cases hx⟩
  | succ n ih =>
    rw [iterP] at h ⊢
    split at h
    · rename_i h0
      rw [if_pos h0]
      obtain ⟨h1, l, h2, h3, h4, h5⟩ := ih h
      obtain ⟨-, x, x2, x3, x4, x5⟩ := stepI_once h1
      refine ⟨h0, x :: l, by simp [h2], by rw [h3, x2]; simp, by rw [x3, List.flatMap_cons, List.append_assoc, ← h4], fun y hy => ?_⟩
      rcases List.mem_cons.1 hy with rfl | hy
      · exact ⟨x4, x5⟩
      · exact h5 y hy
    · rename_i h0; exact absurd h h0
theorem iterO_once {n : Nat} {a : RdT × List TOut} (h : (iterP Prod.fst stepO n a).1.2 = 0) : a.1.2 = 0 ∧ ∃ l, l.length = n ∧ (iterP Prod.fst stepO n a).2 = a.2 ++ l ∧ a.1.1 = l.flatMap outB ++ (iterP Prod.fst stepO n a).1.1 ∧ ∀ x ∈ l, OutOk x ∧ x.2.length ≤ 10000 := by
  induction n generalizing a with
  | zero => exact ⟨h, [], rfl, by simp [iterP], by simp [iterP], fun x hx => by cases hx⟩
  | succ n ih =>
    rw [iterP] at h ⊢
    split at h
    · rename_i h0
      rw [if_pos h0]
      obtain ⟨h1, l, h2, h3, h4, h5⟩ := ih h
      obtain ⟨-, x, x2, x3, x4, x5⟩ := stepO_once h1
      refine ⟨h0, x :: l, by simp [h2], by rw [h3, x2]; simp, by rw [x3, List.flatMap_cons, List.append_assoc, ← h4], fun y hy => ?_⟩
      rcases List.mem_cons.1 hy with rfl | hy
      · exact ⟨x4, x5⟩
      · exact h5 y hy
    · rename_i h0; exact absurd h h0
theorem getI_once {R : RdT} (h : (getI R).1.2 = 0) : R.2 = 0 ∧ 1 ≤ (getI R).2.length ∧ (getI R).2.length ≤ 1000 ∧ R.1 = putN (getI R).2.length ++ (getI R).2.flatMap inB ++ (getI R).1.1 ∧ ∀ x ∈ (getI R).2, InOk x ∧ x.2.2.1.length ≤ 10000 := by
  unfold getI manyP at h ⊢
  simp only at h ⊢
  split at h
  · rename_i h0
    split at h
    · rename_i h1
      split at h
      · cases h
      · rename_i h2
        obtain ⟨b1, b2⟩ := boundN_once h1
        obtain ⟨-, l, l1, l2, l3, l4⟩ := iterI_once h
        simp only [h0, h1, h2, if_true, if_false]
        rw [l2, List.nil_append, l1]
        simp only at l3
        refine ⟨trivial, by omega, b2, ?_, l4⟩
        rw [List.append_assoc, ← l3]; exact b1
    · rename_i h1; exact absurd h h1
  · rename_i h0; exact absurd h h0
theorem getO_once {R : RdT} (h : (getO R).1.2 = 0) : R.2 = 0 ∧ (getO R).2.length ≤ 1000 ∧ R.1 = putN (getO R).2.length ++ (getO R).2.flatMap outB ++ (getO R).1.1 ∧ ∀ x ∈ (getO R).2, OutOk x ∧ x.2.length ≤ 10000 := by
  unfold getO manyP at h ⊢
  simp only at h ⊢
  split at h
  · rename_i h0
    split at h
    · rename_i h1
      split at h
      · cases h
      · rename_i h2
        obtain ⟨b1, b2⟩ := boundN_once h1
        obtain ⟨-, l, l1, l2, l3, l4⟩ := iterO_once h
        simp only [h0, h1, h2, if_true, if_false]
        rw [l2, List.nil_append, l1]
        simp only at l3
        refine ⟨trivial, b2, ?_, l4⟩
        rw [List.append_assoc, ← l3]; exact b1
    · rename_i h1; exact absurd h h1
  · rename_i h0; exact absurd h h0
theorem saneT_of {t : TxT} (h1 : 1 ≤ t.2.1.length) (h2 : t.2.1.length ≤ 1000) (h3 : t.2.2.1.length ≤ 1000) (h4 : ∀ x ∈ t.2.1, x.2.2.1.length ≤ 10000) (h5 : ∀ y ∈ t.2.2.1, y.2.length ≤ 10000) : saneT t = true := by
  unfold saneT
  simp only [Bool.and_eq_true, decide_eq_true_eq, Bool.not_eq_true', List.any_eq_false]
  refine ⟨⟨⟨h1, h2, h3⟩, fun x hx => ?_⟩, fun y hy => ?_⟩
  · have := h4 x hx; omega
  · have := h5 y hy; omega
/-- Of bytes that are got just these are put; what is got may be. -/
theorem getT_once {b : List UInt8} (h : (getT b).2.2 = 0) : TxOk (getT b).1 ∧ saneT (getT b).1 = true ∧ (getT b).2.1 ≤ b.length ∧ txB (getT b).1 = b.take (getT b).2.1 := by
  unfold getT at h ⊢
  split at h
  · rename_i h0
    rw [if_pos h0]
    obtain ⟨a3, b3⟩ := numP_once h0
    obtain ⟨a2, c2, b2, d2⟩ := getO_once a3
    obtain ⟨a1, c1, e1, b1, d1⟩ := getI_once a2
    obtain ⟨a0, b0⟩ := numP_once a1
    have k1 := numP_lt 4 (b, 0)
    have k2 := numP_lt 4 (getO (getI (numP 4 (b, 0)).2).1).1
    have hb : b = txB ((numP 4 (b, 0)).1, (getI (numP 4 (b, 0)).2).2, (getO (getI (numP 4 (b, 0)).2).1).2, (numP 4 (getO (getI (numP 4 (b, 0)).2).1).1).1) ++ (numP 4 (getO (getI (numP 4 (b, 0)).2).1).1).2.1 := by
      unfold txB
      simp only [List.append_assoc]
      rw [← b3]
      simp only [List.append_assoc] at b2
      rw [← b2]
      simp only [List.append_assoc] at b1
      rw [← b1]
      exact b0
    simp only at h ⊢
    refine ⟨⟨by simp only; omega, fun x hx => (d1 x hx).1, fun y hy => (d2 y hy).1, by simp only; omega⟩, saneT_of c1 e1 c2 (fun x hx => (d1 x hx).2) (fun y hy => (d2 y hy).2), by omega, ?_⟩
    generalize txB ((numP 4 (b, 0)).1, (getI (numP 4 (b, 0)).2).2, (getO (getI (numP 4 (b, 0)).2).1).2, (numP 4 (getO (getI (numP 4 (b, 0)).2).1).1).1) = T at *
    generalize (numP 4 (getO (getI (numP 4 (b, 0)).2).1).1).2.1 = r at *
    rw [hb, List.length_append, Nat.add_sub_cancel, List.take_left]
  · rename_i h0; exact absurd h h0
theorem getT_err {b : List UInt8} (h : (getT b).2.2 ≠ 0) : getT b = ((0, [], [], 0), 0, (getT b).2.2) := by
  unfold getT at h ⊢
  split at h
  · exact absurd rfl h
  · rename_i h0
    rw [if_neg h0]
end Go.Proofs.Ytkcapmodgkficaa
