/- Sorting, plainly: one number after the other put behind those that are no greater. -/
namespace Go.Fl
set_option linter.unusedVariables false
set_option linter.unusedSimpArgs false

def insW (x : Nat) (S : List Nat) : List Nat := S.takeWhile (fun y => decide (y ≤ x)) ++ x :: S.dropWhile (fun y => decide (y ≤ x))
def srt (l : List Nat) : List Nat := l.foldl (fun S x => insW x S) []
theorem srt_snoc (l : List Nat) (x : Nat) : srt (l ++ [x]) = insW x (srt l) := by simp [srt]
theorem insW_perm (x : Nat) (S : List Nat) : (insW x S).Perm (x :: S) := by
  unfold insW
  refine List.perm_middle.trans ?_
  rw [List.takeWhile_append_dropWhile]
theorem srt_perm (l : List Nat) : (srt l).Perm l := by
  have : ∀ (l S : List Nat), (l.foldl (fun S x => insW x S) S).Perm (S ++ l) := by
    intro l
    induction l with
    | nil => intro S; simp
    | cons x l ih =>
      intro S
      refine (ih (insW x S)).trans ?_
      refine (List.Perm.append_right l (insW_perm x S)).trans ?_
      exact (List.perm_middle (l₁ := S) (l₂ := l) (a := x)).symm
  simpa [srt] using this l []
theorem srt_length (l : List Nat) : (srt l).length = l.length := (srt_perm l).length_eq
abbrev Sorted (l : List Nat) : Prop := l.Pairwise (· ≤ ·)
theorem insW_at {S : List Nat} (hS : Sorted S) {x j : Nat} (hj : j ≤ S.length) (h1 : ∀ y ∈ S.take j, y ≤ x) (h2 : ∀ y ∈ S.drop j, x < y) : insW x S = S.take j ++ x :: S.drop j := by
  unfold insW
  have e1 : S.takeWhile (fun y => decide (y ≤ x)) = S.take j := by
    conv => lhs; rw [← List.take_append_drop j S]
    rw [List.takeWhile_append_of_pos (by simpa using h1)]
    cases hd : S.drop j with
    | nil => simp
    | cons y r =>
      have := h2 y (by rw [hd]; simp)
      simp [List.takeWhile_cons, show ¬ y ≤ x by omega]
  have e2 : S.dropWhile (fun y => decide (y ≤ x)) = S.drop j := by
    conv => lhs; rw [← List.take_append_drop j S]
    rw [List.dropWhile_append_of_pos (by simpa using h1)]
    cases hd : S.drop j with
    | nil => simp
    | cons y r =>
      have := h2 y (by rw [hd]; simp)
      simp [List.dropWhile_cons, show ¬ y ≤ x by omega]
  rw [e1, e2]
theorem insW_sorted {S : List Nat} (hS : Sorted S) (x : Nat) : Sorted (insW x S) := by
  have hs : S = S.takeWhile (fun y => decide (y ≤ x)) ++ S.dropWhile (fun y => decide (y ≤ x)) := (List.takeWhile_append_dropWhile).symm
  rw [hs] at hS
  obtain ⟨a, b, c⟩ := List.pairwise_append.1 hS
  have ht : ∀ y ∈ S.takeWhile (fun y => decide (y ≤ x)), y ≤ x := fun y hy => by
    have : ∀ (l : List Nat), y ∈ l.takeWhile (fun y => decide (y ≤ x)) → y ≤ x := by
      intro l
      induction l with
      | nil => intro h; simp at h
      | cons z l ih =>
        intro h
        rw [List.takeWhile_cons] at h
        split at h
        · rename_i hz
          rcases List.mem_cons.1 h with rfl | h
          · simpa using hz
          · exact ih h
        · cases h
    exact this S hy
  have hd : ∀ y ∈ S.dropWhile (fun y => decide (y ≤ x)), x ≤ y := by
    cases h : S.dropWhile (fun y => decide (y ≤ x)) with
    | nil => intro y hy; cases hy
    | cons z r =>
      have hz : ¬ z ≤ x := by
        have := List.head_dropWhile_not (p := fun y => decide (y ≤ x)) (l := S) (by rw [h]; simp)
        simp only [h, List.head_cons, decide_eq_false_iff_not] at this
        exact this
      rw [h] at b
      intro y hy
      rcases List.mem_cons.1 hy with rfl | hy
      · omega
      · have := (List.pairwise_cons.1 b).1 y hy; omega
  unfold insW
  refine List.pairwise_append.2 ⟨a, List.pairwise_cons.2 ⟨fun y hy => hd y hy, b⟩, fun y hy z hz => ?_⟩
  rcases List.mem_cons.1 hz with rfl | hz
  · exact ht y hy
  · exact c y hy z hz
theorem srt_sorted (l : List Nat) : Sorted (srt l) := by
  have : ∀ (l S : List Nat), Sorted S → Sorted (l.foldl (fun S x => insW x S) S) := by
    intro l
    induction l with
    | nil => intro S h; exact h
    | cons x l ih => intro S h; exact ih _ (insW_sorted h x)
  exact this l [] .nil
theorem sorted_unique : ∀ {a b : List Nat}, Sorted a → Sorted b → a.Perm b → a = b
  | [], b, _, _, h => (List.nil_perm.1 h).symm
  | x :: a, [], _, _, h => absurd h.length_eq (by simp)
  | x :: a, y :: b, ha, hb, h => by
    obtain ⟨ha1, ha2⟩ := List.pairwise_cons.1 ha
    obtain ⟨hb1, hb2⟩ := List.pairwise_cons.1 hb
    have h1 : x ∈ y :: b := h.subset (by simp)
    have h2 : y ∈ x :: a := h.symm.subset (by simp)
    have hxy : x = y := by
      have e1 : y ≤ x := by
        rcases List.mem_cons.1 h1 with h | h
        · omega
        · exact hb1 x h
      have e2 : x ≤ y := by
        rcases List.mem_cons.1 h2 with h | h
        · omega
        · exact ha1 y h
      omega
    subst hxy
    rw [sorted_unique ha2 hb2 ((List.perm_cons x).1 h)]
theorem srt_of_perm {a b : List Nat} (h : a.Perm b) : srt a = srt b := sorted_unique (srt_sorted a) (srt_sorted b) (((srt_perm a).trans h).trans (srt_perm b).symm)
theorem sorted_get {S : List Nat} (h : Sorted S) {i j : Nat} (hij : i ≤ j) (hj : j < S.length) : S[i] ≤ S[j] := by
  rcases Nat.lt_or_ge i j with hlt | hge
  · exact List.pairwise_iff_getElem.1 h i j (by omega) hj hlt
  · have : i = j := by omega
    subst this; exact Nat.le_refl _

/-- The last eleven; the one in the middle. -/
def last11 (l : List Nat) : List Nat := l.drop (l.length - 11)
def med (l : List Nat) : Nat := (srt (last11 l)).getD ((last11 l).length / 2) 0
theorem last11_len (l : List Nat) : (last11 l).length = min l.length 11 := by simp [last11]; omega

theorem count_take_drop (p : Nat → Bool) (S : List Nat) (k : Nat) : S.countP p = (S.take k).countP p + (S.drop k).countP p := by
  conv => lhs; rw [← List.take_append_drop k S]
  exact List.countP_append
theorem below_mid {S : List Nat} (h : Sorted S) {k : Nat} (hk : k < S.length) : S.countP (fun y => decide (y < S[k])) ≤ k := by
  rw [count_take_drop _ _ k]
  have h1 : (S.take k).countP (fun y => decide (y < S[k])) ≤ k := Nat.le_trans List.countP_le_length (by simp <;> omega)
  have h2 : (S.drop k).countP (fun y => decide (y < S[k])) = 0 := by
    rw [List.countP_eq_zero]
    intro y hy
    obtain ⟨j, hj, rfl⟩ := List.getElem_of_mem hy
    simp only [List.length_drop] at hj
    have := sorted_get h (i := k) (j := k + j) (by omega) (by omega)
    simp only [List.getElem_drop, decide_eq_true_eq]
    omega
  omega
theorem above_mid {S : List Nat} (h : Sorted S) {k : Nat} (hk : k < S.length) : S.countP (fun y => decide (S[k] < y)) ≤ S.length - 1 - k := by
  rw [count_take_drop _ _ (k + 1)]
  have h1 : (S.take (k + 1)).countP (fun y => decide (S[k] < y)) = 0 := by
    rw [List.countP_eq_zero]
    intro y hy
    obtain ⟨j, hj, rfl⟩ := List.getElem_of_mem hy
    simp only [List.length_take] at hj
    have := sorted_get h (i := j) (j := k) (by omega) hk
    simp only [List.getElem_take, decide_eq_true_eq]
    omega
  have h2 : (S.drop (k + 1)).countP (fun y => decide (S[k] < y)) ≤ S.length - 1 - k := Nat.le_trans List.countP_le_length (by simp <;> omega)
  omega
theorem med_get {l : List Nat} (h : 0 < l.length) : ∃ hk : (last11 l).length / 2 < (srt (last11 l)).length, med l = (srt (last11 l))[(last11 l).length / 2] := by
  have h1 := last11_len l
  have hk : (last11 l).length / 2 < (srt (last11 l)).length := by rw [srt_length]; omega
  refine ⟨hk, ?_⟩
  unfold med
  rw [List.getD_eq_getElem?_getD, List.getElem?_eq_getElem hk]; rfl
theorem med_below {l : List Nat} (h : 0 < l.length) : (last11 l).countP (fun y => decide (y < med l)) ≤ (last11 l).length / 2 := by
  obtain ⟨hk, e⟩ := med_get h
  rw [e, ← (srt_perm (last11 l)).countP_eq]
  exact below_mid (srt_sorted _) hk
theorem med_above {l : List Nat} (h : 0 < l.length) : (last11 l).countP (fun y => decide (med l < y)) ≤ (last11 l).length - 1 - (last11 l).length / 2 := by
  obtain ⟨hk, e⟩ := med_get h
  rw [e, ← (srt_perm (last11 l)).countP_eq]
  have := above_mid (srt_sorted (last11 l)) hk
  rw [srt_length] at this
  exact this
theorem med_mem {l : List Nat} (h : 0 < l.length) : med l ∈ last11 l := by
  obtain ⟨hk, e⟩ := med_get h
  rw [e]
  exact (srt_perm (last11 l)).subset (List.getElem_mem hk)
theorem last11_append {more l : List Nat} (h : 11 ≤ l.length) : last11 (more ++ l) = last11 l := by
  unfold last11
  rw [List.drop_append, List.drop_eq_nil_of_le (by simp <;> omega), List.nil_append]
  congr 1; simp; omega
theorem last11_small {l : List Nat} (h : l.length ≤ 11) : last11 l = l := by
  unfold last11
  rw [show l.length - 11 = 0 by omega, List.drop_zero]
/-- With one more that is above it the middle doesn't fall. -/
theorem med_rises {l : List Nat} (h : 11 ≤ l.length) {x : Nat} (hx : med l < x) : med l ≤ med (l ++ [x]) := by
  have h1 : (last11 l).length = 11 := by rw [last11_len]; omega
  have h2 : (last11 (l ++ [x])).length = 11 := by rw [last11_len]; simp; omega
  have hb := med_below (l := l) (by omega)
  rcases Nat.lt_or_ge (med (l ++ [x])) (med l) with hlt | hge
  · exfalso
    have ha := med_above (l := l ++ [x]) (by simp)
    rw [h1] at hb
    rw [h2] at ha
    have e : last11 (l ++ [x]) = (last11 l).drop 1 ++ [x] := by
      unfold last11
      rw [List.drop_append, List.drop_drop]
      have e1 : (l ++ [x]).length - 11 = 1 + (l.length - 11) := by simp <;> omega
      have e2 : (l ++ [x]).length - 11 - l.length = 0 := by simp <;> omega
      rw [e2, e1, List.drop_zero, Nat.add_comm]
    have c1 : (last11 (l ++ [x])).countP (fun y => decide (med l ≤ y)) ≤ 5 := by
      refine Nat.le_trans (List.countP_mono_left ?_) ha
      intro y _ hy
      simp only [decide_eq_true_eq] at hy ⊢
      omega
    rw [e, List.countP_append] at c1
    have c2 : [x].countP (fun y => decide (med l ≤ y)) = 1 := by simp <;> omega
    have c3 : (last11 l).countP (fun y => decide (med l ≤ y)) ≤ 1 + ((last11 l).drop 1).countP (fun y => decide (med l ≤ y)) := by
      rw [count_take_drop _ (last11 l) 1]
      have : ((last11 l).take 1).countP (fun y => decide (med l ≤ y)) ≤ 1 := Nat.le_trans List.countP_le_length (by simp <;> omega)
      omega
    have c4 : (last11 l).countP (fun y => decide (y < med l)) + (last11 l).countP (fun y => decide (med l ≤ y)) = 11 := by
      rw [← h1, List.length_eq_countP_add_countP (fun y => decide (y < med l)) (l := last11 l)]
      congr 1
      refine List.countP_congr fun y _ => ?_
      simp
    omega
  · exact hge
end Go.Fl
