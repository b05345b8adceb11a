/- Scripts, plainly: what is put is got. -/
import Derived.Test.YtlcdehedojkgoaaDoorScC
import Derived.Test.YtlcdehedojkgoaaDoorScD
namespace Go.Proofs.YtlcdehedojkgoaaDoor
open Go.Vx Go.Fl
set_option maxRecDepth 100000
set_option maxHeartbeats 4000000
set_option linter.unusedSimpArgs false
set_option linter.unusedVariables false

theorem b8_small {x : Int} (h0 : 0 ≤ x) (h1 : x ≤ 255) : ((b8 x).toNat : Int) = x := by
  rw [← b8_eq, wrap_u8 h0 h1]
theorem twoP_put (n : Nat) (hn : n ≤ 65535) (r : List UInt8) : twoP (twoB (n : Int) ++ r) = (n, r) := by
  have e1 : ((b8 (n : Int)).toNat : Int) = (n : Int) % 256 := by rw [← b8_eq, IntKind.wrap_u8]
  have e2 : hi8 (n : Int) = ((n / 256 : Nat) : Int) := by
    unfold hi8
    have : (2 : Int) ^ (min 8 IntKind.i64.bits) = 256 := rfl
    rw [this, Int.fdiv_eq_ediv_of_nonneg _ (by omega)]; omega
  have e3 : ((b8 (hi8 (n : Int))).toNat : Int) = ((n / 256 : Nat) : Int) := by rw [e2]; exact b8_small (by omega) (by omega)
  unfold twoB twoP
  simp only [List.cons_append, List.nil_append, oneP]
  congr 1
  omega
theorem sgetP_put (s : Stp) (h : fitsP s = true) (r : List UInt8) : sgetP (sputP s ++ r) = (s, r) := by
  obtain ⟨k, p, n, d⟩ := s
  simp only [fitsP, decide_eq_true_eq] at h
  obtain ⟨k, rfl⟩ : ∃ j : Nat, k = (j : Int) := ⟨k.toNat, by omega⟩
  obtain ⟨p, rfl⟩ : ∃ j : Nat, p = (j : Int) := ⟨p.toNat, by omega⟩
  obtain ⟨n, rfl⟩ : ∃ j : Nat, n = (j : Int) := ⟨n.toNat, by omega⟩
  have e1 := b8_small (x := (k : Int)) (by omega) (by omega)
  have e2 := b8_small (x := (p : Int)) (by omega) (by omega)
  have e3 := twoP_put n (by omega) (twoB (d.length : Int) ++ (d ++ r))
  have e4 := twoP_put d.length (by omega) (d ++ r)
  have hs : sputP ((k : Int), (p : Int), (n : Int), d) ++ r = b8 (k : Int) :: b8 (p : Int) :: (twoB (n : Int) ++ (twoB (d.length : Int) ++ (d ++ r))) := by simp [sputP]
  rw [hs]
  unfold sgetP
  simp only [oneP, e3, e4]
  have hk : (b8 (k : Int)).toNat % 10 = k := by omega
  have hd1 : (d ++ r).take d.length = d := List.take_left
  have hd2 : (d ++ r).drop d.length = r := List.drop_left
  rw [hk, e2, hd1, hd2]
theorem sputP_ne (s : Stp) (r : List UInt8) : sputP s ++ r ≠ [] := by simp [sputP]
theorem flat_ne {l : List Stp} (h : l ≠ []) : l.flatMap sputP ≠ [] := by
  cases l with
  | nil => exact absurd rfl h
  | cons s l => rw [List.flatMap_cons]; exact sputP_ne s _
theorem sgetN_put (l : List Stp) (h : ∀ s ∈ l, fitsP s = true) : ∀ k, sgetN (l.flatMap sputP) k = (l.take k, (l.drop k).flatMap sputP)
  | 0 => rfl
  | k + 1 => by
    have ih := sgetN_put l h k
    rw [sgetN, ih]
    by_cases hk : k < l.length
    · have hd : l.drop k = l[k] :: l.drop (k + 1) := List.drop_eq_getElem_cons hk
      simp only [hd, List.flatMap_cons]
      rw [if_neg (sputP_ne _ _), sgetP_put _ (h _ (List.getElem_mem hk)), List.take_add_one, List.getElem?_eq_getElem hk]
      rfl
    · have hd : l.drop k = [] := List.drop_eq_nil_of_le (by omega)
      have hd' : l.drop (k + 1) = [] := List.drop_eq_nil_of_le (by omega)
      simp only [hd, hd', List.flatMap_nil, if_pos]
      rw [List.take_of_length_le (by omega), List.take_of_length_le (by omega)]
theorem sget_put (l : List Stp) (hl : l.length ≤ 400) : sgetA (sputA l) = l.filter fitsP := by
  unfold sgetA sputA
  rw [sgetN_put _ (fun s hs => (List.mem_filter.1 hs).2)]
  exact List.take_of_length_le (Nat.le_trans (List.length_filter_le _ _) hl)
end Go.Proofs.YtlcdehedojkgoaaDoor
