/- The disk, plainly: what crashes, writes and reads do. -/
import Derived.Test.YtjggpdcmjphmmaaDV7
namespace Go.Fl
open Go.RowKit Go.Proofs.Ytjggpdcmjphmmaa
set_option linter.unusedVariables false
set_option linter.unusedSimpArgs false

theorem splice_get {α : Type} (L : List α) (off : Nat) (cs : List α) (h : off + cs.length ≤ L.length) (k : Nat) :
    (splice L off cs)[k]? = if off ≤ k ∧ k < off + cs.length then cs[k - off]? else L[k]? := by
  unfold splice
  have hl : (L.take off).length = off := by simp; omega
  rw [List.getElem?_append, List.getElem?_append, hl]
  by_cases h1 : k < off
  · rw [if_pos h1, if_neg (by omega), List.getElem?_take, if_pos h1]
  · rw [if_neg h1]
    by_cases h2 : k - off < cs.length
    · rw [if_pos h2, if_pos (by omega)]
    · rw [if_neg h2, if_neg (by omega), List.getElem?_drop]
      congr 1; omega
theorem splice_nil {α : Type} (L : List α) (off : Nat) : splice L off [] = L := by simp [splice]

theorem laid_append (many : Nat → Nat) : ∀ (l m : List Wr) (i : Nat) (cur : List UInt8), laid many i (l ++ m) cur = laid many (i + l.length) m (laid many i l cur)
  | [], m, i, cur => rfl
  | x :: l, m, i, cur => by
    simp only [List.cons_append, laid, List.length_cons]
    rw [laid_append many l m (i + 1)]
    congr 1; omega
theorem laid_congr {many many' : Nat → Nat} : ∀ (l : List Wr) (i : Nat) (cur : List UInt8), (∀ j, j < l.length → many (i + j) = many' (i + j)) → laid many i l cur = laid many' i l cur
  | [], i, cur, h => rfl
  | x :: l, i, cur, h => by
    simp only [laid]
    have h0 := h 0 (by simp)
    simp only [Nat.add_zero] at h0
    rw [h0]
    refine laid_congr l (i + 1) _ fun j hj => ?_
    have := h (j + 1) (by simp; omega)
    rwa [show i + 1 + j = i + (j + 1) by omega]
theorem laid_zero {many : Nat → Nat} : ∀ (l : List Wr) (i : Nat) (cur : List UInt8), (∀ j, j < l.length → many (i + j) = 0) → laid many i l cur = cur
  | [], i, cur, h => rfl
  | x :: l, i, cur, h => by
    simp only [laid]
    have h0 := h 0 (by simp)
    simp only [Nat.add_zero] at h0
    rw [h0, List.take_zero, splice_nil]
    refine laid_zero l (i + 1) _ fun j hj => ?_
    have := h (j + 1) (by simp; omega)
    rwa [show i + 1 + j = i + (j + 1) by omega]

theorem laid_get (many : Nat → Nat) (k : Nat) : ∀ (l : List Wr) (i : Nat) (cur : List UInt8), (∀ x ∈ l, x.2.length = 32 ∧ 0 ≤ x.1 ∧ 32 * x.1.toNat + 32 ≤ cur.length) →
    (laid many i l cur)[k]? = cur[k]? ∨ ∃ x ∈ l, x.1 = ((k / 32 : Nat) : Int) ∧ x.2[k % 32]? = (laid many i l cur)[k]?
  | [], i, cur, h => .inl rfl
  | x :: l, i, cur, h => by
    simp only [laid]
    have h0 := h x (by simp)
    have ht : (x.2.take (many i)).length ≤ 32 := by simp; omega
    have hs : (splice cur (32 * x.1.toNat) (x.2.take (many i))).length = cur.length := splice_len _ _ _ (by omega)
    rcases laid_get many k l (i + 1) (splice cur (32 * x.1.toNat) (x.2.take (many i))) (fun y hy => by rw [hs]; exact h y (by simp [hy])) with e | ⟨y, hy, e⟩
    · rw [splice_get _ _ _ (by omega)] at e
      split at e
      · rename_i hk
        right
        refine ⟨x, by simp, by omega, ?_⟩
        rw [e, List.getElem?_take]
        rw [if_pos (by simp at hk; omega)]
        congr 1; omega
      · exact .inl e
    · exact .inr ⟨y, by simp [hy], e⟩

theorem sane_all {D : Dk} (h : saneB D = true) : ∀ x ∈ D.2, x.2.length = 32 ∧ 0 ≤ x.1 ∧ 32 * x.1.toNat + 32 ≤ D.1.length := fun x hx => by
  obtain ⟨i, hi, rfl⟩ := List.getElem_of_mem hx
  have h1 := sane_write h i hi
  have h2 := (sane_sizes h).1
  exact ⟨h1.1, by omega, by omega⟩
theorem sane_mk {D : Dk} (h1 : D.1.length % 32 = 0) (h2 : D.1.length / 32 ≤ 4096) (h3 : D.2.length ≤ 100000) (h4 : ∀ x ∈ D.2, x.2.length = 32 ∧ 0 ≤ x.1 ∧ x.1 < ((D.1.length / 32 : Nat) : Int)) : saneB D = true := by
  unfold saneB
  simp only [h1, h2, h3, and_self, decide_true, Bool.true_and, Bool.not_eq_true', List.any_eq_false]
  intro x hx
  obtain ⟨a, b, c⟩ := h4 x hx
  have e := (hasB_iff D.1.length x.1).2 ⟨b, c⟩
  simp [wrBad, a, e]
theorem saneOr_of {D : Dk} (h : saneB D = true) : saneOr D = D := if_pos h
theorem crashD_len {D : Dk} (h : saneB D = true) (plan : List UInt8) : (crashD D plan).length = D.1.length := laid_len _ _ _ _ (sane_all h)
theorem sane_base {D : Dk} (h : saneB D = true) (b : List UInt8) (hb : b.length = D.1.length) : saneB (b, []) = true := by
  have := sane_sizes h
  exact sane_mk (by simp [hb, this]) (by simp [hb, this]) (by simp) (fun x hx => by cases hx)
theorem crashD_nil {b : List UInt8} (h : saneB (b, []) = true) (plan : List UInt8) : crashD (saneOr (b, [])) plan = b := by rw [saneOr_of h]; rfl
theorem bytesD_nil {b : List UInt8} (h : saneB (b, []) = true) : bytesD (saneOr (b, [])) = b := by rw [saneOr_of h]; rfl
theorem crashD_all (D : Dk) (plan : List UInt8) (h : ∀ j, j < D.2.length → planN plan j = 32) : crashD D plan = bytesD D := laid_congr _ _ _ fun j hj => by simpa using h j hj
theorem crashD_none (D : Dk) : crashD D [] = D.1 := laid_zero _ _ _ fun j hj => by simp [planN]

theorem putD_some {S : Dk} (hS : saneB S = true) {k : Int} {b : List UInt8} (h : (putD S k b).2 = 0) : putD S k b = ((S.1, S.2 ++ [(k, b)]), 0) ∧ 0 ≤ k ∧ k < ((S.1.length / 32 : Nat) : Int) ∧ b.length = 32 ∧ saneB (S.1, S.2 ++ [(k, b)]) = true := by
  unfold putD at h ⊢
  rw [saneOr_of hS] at h ⊢
  split at h
  · rename_i hc
    rw [if_pos hc]
    have := (hasB_iff _ _).1 hc.1
    have hs := sane_sizes hS
    refine ⟨rfl, this.1, this.2, hc.2.1, sane_mk hs.1 hs.2.1 (by simp; omega) fun x hx => ?_⟩
    rcases List.mem_append.1 hx with hx | hx
    · obtain ⟨i, hi, rfl⟩ := List.getElem_of_mem hx
      exact sane_write hS i hi
    · simp only [List.mem_singleton] at hx
      subst hx
      exact ⟨hc.2.1, this.1, this.2⟩
  · cases h
theorem putD_none {S : Dk} (hS : saneB S = true) {k : Int} {b : List UInt8} (h : (putD S k b).2 ≠ 0) : putD S k b = (S, 14) := by
  unfold putD at h ⊢
  rw [saneOr_of hS] at h ⊢
  split at h
  · exact absurd rfl h
  · rename_i hc
    rw [if_neg hc]

def rowW (k : Int) (b : List UInt8) (i : Nat) : List Wr := (List.range i).map fun j : Nat => ((k + (j : Int), chunk b j) : Wr)
theorem rowW_succ (k : Int) (b : List UInt8) (i : Nat) : rowW k b (i + 1) = rowW k b i ++ [(k + i, chunk b i)] := by simp [rowW, List.range_succ]

theorem layN_some {S : Dk} (hS : saneB S = true) {k : Int} {b : List UInt8} : ∀ (i : Nat) (X : Dk), layN S k b i = some X → X = (S.1, S.2 ++ rowW k b i) ∧ saneB X = true ∧ ∀ j : Nat, j < i → 0 ≤ k + j ∧ k + j < ((S.1.length / 32 : Nat) : Int) ∧ (chunk b j).length = 32
  | 0, X, h => by
    simp only [layN, Option.some.injEq] at h
    subst h
    exact ⟨by simp [rowW], hS, fun j hj => by omega⟩
  | i + 1, X, h => by
    simp only [layN] at h
    split at h <;> first | (cases h; done) | skip
    rename_i Y hY
    split at h <;> first | (cases h; done) | skip
    rename_i hp
    simp only [Option.some.injEq] at h
    obtain ⟨a1, a2, a3⟩ := layN_some hS i Y hY
    obtain ⟨b1, b2, b3, b4, b5⟩ := putD_some a2 hp
    rw [b1] at h
    simp only at h
    subst h
    subst a1
    refine ⟨by simp [rowW_succ], b5, fun j hj => ?_⟩
    by_cases he : j = i
    · subst he; exact ⟨b2, b3, b4⟩
    · exact a3 j (by omega)

theorem layD_cases {S : Dk} (hS : saneB S = true) (k : Int) (b : List UInt8) : (layD S k b = (S, 14)) ∨
    (b.length % 32 = 0 ∧ layD S k b = ((S.1, S.2 ++ rowW k b (b.length / 32)), 0) ∧ saneB (S.1, S.2 ++ rowW k b (b.length / 32)) = true ∧ ∀ j : Nat, j < b.length / 32 → 0 ≤ k + j ∧ k + j < ((S.1.length / 32 : Nat) : Int) ∧ (chunk b j).length = 32) := by
  unfold layD
  rw [saneOr_of hS]
  split
  · rename_i hb
    split
    · rename_i X hX
      obtain ⟨a1, a2, a3⟩ := layN_some hS _ X hX
      subst a1
      exact .inr ⟨hb, rfl, a2, a3⟩
    · exact .inl rfl
  · exact .inl rfl

/-- More writes of which nothing is kept. -/
theorem crashD_more (b : List UInt8) (l m : List Wr) (plan : List UInt8) : crashD (b, l ++ m) (plan.take (min plan.length l.length)) = crashD (b, l) plan := by
  unfold crashD
  rw [laid_append, laid_zero]
  · refine laid_congr _ _ _ fun j hj => ?_
    have hj : j < l.length := hj
    simp only [planN, Nat.zero_add]
    congr 2
    rw [List.getD_eq_getElem?_getD, List.getD_eq_getElem?_getD, List.getElem?_take]
    split
    · rfl
    · rw [List.getElem?_eq_none (by omega)]
  · intro j hj
    simp only [planN]
    rw [List.getD_eq_getElem?_getD, List.getElem?_eq_none (by simp; omega)]
    rfl

/-- What lies in a row is read in a row. -/
theorem row_get (k0 : Int) (b : List UInt8) : ∀ (n i : Nat) (cur : List UInt8), (∀ j : Nat, j < n → 0 ≤ k0 + j ∧ 32 * (k0 + j).toNat + 32 ≤ cur.length ∧ (chunk b j).length = 32) → ∀ q : Nat,
    (laid (fun _ => 32) i (rowW k0 b n) cur).length = cur.length ∧
    (laid (fun _ => 32) i (rowW k0 b n) cur)[q]? = if k0 ≤ ((q / 32 : Nat) : Int) ∧ ((q / 32 : Nat) : Int) < k0 + n then (chunk b (((q / 32 : Nat) : Int) - k0).toNat)[q % 32]? else cur[q]?
  | 0, i, cur, h, q => by
    rw [if_neg (by omega)]
    simp [rowW, laid]
  | n + 1, i, cur, h, q => by
    rw [rowW_succ, laid_append]
    obtain ⟨h1, h2⟩ := row_get k0 b n i cur (fun j hj => h j (by omega)) q
    have hn := h n (by omega)
    simp only [laid]
    rw [List.take_of_length_le (by omega)]
    refine ⟨by rw [splice_len _ _ _ (by omega), h1], ?_⟩
    rw [splice_get _ _ _ (by omega), hn.2.2, h2]
    by_cases hq : ((q / 32 : Nat) : Int) = k0 + n
    · rw [if_pos (by omega), if_pos (by omega)]
      have e : (((q / 32 : Nat) : Int) - k0).toNat = n := by omega
      rw [e]
      congr 1
      have : (k0 + n).toNat = q / 32 := by omega
      omega
    · rw [if_neg (by omega)]
      by_cases hr : k0 ≤ ((q / 32 : Nat) : Int) ∧ ((q / 32 : Nat) : Int) < k0 + n
      · rw [if_pos hr, if_pos (by omega)]
      · rw [if_neg hr, if_neg (by omega)]
end Go.Fl
