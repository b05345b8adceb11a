/- The walk of the law CompactBounds. -/
import Derived.Test.YtmlphlljllcclaaOnceWalk
namespace Go.Proofs.Ytmlphlljllcclaa
open Go.RowKit Go.Fl
set_option linter.unusedSimpArgs false
set_option linter.unusedVariables false

theorem boundN_putN (x q : Nat) (hx : x < 18446744073709551616) : boundN (putN x) q = if min q 2147483647 < x then (0, 0, 3) else (x, sizeN x, 0) := by
  have := getN_putN x hx []
  rw [List.append_nil] at this
  unfold boundN
  rw [this]
  simp

set_option maxHeartbeats 2000000 in
theorem bounds_any (x m q : Nat) (w : World) (hx : x < 18446744073709551616) (hm : m < 18446744073709551616) (hq : q < 18446744073709551616) :
    Calls Try.prog 5 #[.int .u64 (x : Int), .int .u64 (m : Int), .int .u64 (q : Int)] w fun e w' => e = .returned (.bool true) ∧ Below w.heap.size w w' := by
  have hx' : (x : Int) < 18446744073709551616 := by omega
  have hm' : (m : Int) < 18446744073709551616 := by omega
  have hq' : (q : Int) < 18446744073709551616 := by omega
  have HP := Bx.mk (fun W => compact_put none 0 0 [] (x : Int) W (Rd.nil _ _) (by omega) hx' (by omega))
  simp only [Int.toNat_natCast, Nat.zero_add, List.nil_append] at HP
  have HSX := Bx.mk (fun W => compact_size (x : Int) W (by omega) hx')
  have HSM := Bx.mk (fun W => compact_size (m : Int) W (by omega) hm')
  simp only [Int.toNat_natCast] at HSX HSM
  have HB := Bx.mk (fun a n c W hr => compact_bounded a n c (putN x) (q : Int) W hr (by omega) hq')
  simp only [Int.toNat_natCast, boundN_putN x q hx] at HB
  have hcx := sizeN_cases x
  have hcm := sizeN_cases m
  have hmono := sizeN_mono x m
  have hs9 : sizeN x ≤ 9 := by omega
  have hs1 : 1 ≤ sizeN x := by omega
  clear hcx hcm hx' hm' hq' hx hm hq
  generalize putN x = p at *
  generalize sizeN x = s at *
  generalize sizeN m = t at *
  have hb : Below w.heap.size w w := Below.refl _ _
  have hmm : (decide (m < x) = true ∧ m < x) ∨ (decide (m < x) = false ∧ decide (s ≤ t) = true ∧ x ≤ m ∧ s ≤ t) := by
    by_cases h : m < x
    · left; simpa using h
    · right
      have := hmono (by omega)
      simp
      omega
  clear hmono
  by_cases hok : x ≤ q ∧ x < 2147483648
  · obtain ⟨hq1, hq2⟩ := hok
    have hd : True → decide ((x : Int) < 2147483648) = true := fun _ => by simp; omega
    have hd1 : decide (x ≤ q) = true := by simp; omega
    have hq5 : IntKind.u64.wrap (x : Int) = x := IntWalk.u64_in _ (by omega)
    rw [if_neg (by omega)] at HB
    dsimp only at HB
    clear hq2
    rcases hmm with ⟨h1, h2⟩ | ⟨h1, h2, h3, h4⟩
    all_goals
      go_enter Try.func5, Try.ntmps5
      go_wp2_with (first
        | (go_at_call 8; (with_reducible refine (awake_any _).mono ?_); rintro e w1 ⟨rfl, hbn⟩; replace hb := hb.trans (hbn.mono hb.size); clear hbn)
        | (go_at_call 9; (with_reducible refine (HP.out _).mono ?_); rintro e w2 ⟨a2, c2, rfl, hown, hbn⟩; replace hb := hb.trans (hbn.mono hb.size); clear hbn)
        | (go_at_call 12; (with_reducible refine (HB.out _ _ _ _ hown.rd).mono ?_); rintro e w' ⟨rfl, rfl⟩)
        | (go_at_call 11; (with_reducible refine (HSX.out _).mono ?_); rintro e w' ⟨rfl, rfl⟩)
        | (go_at_call 11; (with_reducible refine (HSM.out _).mono ?_); rintro e w' ⟨rfl, rfl⟩))
      go_ret
      exact ⟨rfl, hb⟩
  · rw [if_pos (by omega)] at HB
    dsimp only at HB
    by_cases hxq : x ≤ q
    · have hd : True → decide ((x : Int) < 2147483648) = false := fun _ => by simp; omega
      have hd1 : decide (x ≤ q) = true := by simp; omega
      clear hok
      rcases hmm with ⟨h1, h2⟩ | ⟨h1, h2, h3, h4⟩
      all_goals
        go_enter Try.func5, Try.ntmps5
        go_wp2_with (first
          | (go_at_call 8; (with_reducible refine (awake_any _).mono ?_); rintro e w1 ⟨rfl, hbn⟩; replace hb := hb.trans (hbn.mono hb.size); clear hbn)
          | (go_at_call 9; (with_reducible refine (HP.out _).mono ?_); rintro e w2 ⟨a2, c2, rfl, hown, hbn⟩; replace hb := hb.trans (hbn.mono hb.size); clear hbn)
          | (go_at_call 12; (with_reducible refine (HB.out _ _ _ _ hown.rd).mono ?_); rintro e w' ⟨rfl, rfl⟩)
          | (go_at_call 11; (with_reducible refine (HSX.out _).mono ?_); rintro e w' ⟨rfl, rfl⟩)
          | (go_at_call 11; (with_reducible refine (HSM.out _).mono ?_); rintro e w' ⟨rfl, rfl⟩))
        go_ret
        exact ⟨rfl, hb⟩
    · have hq1 : decide (x ≤ q) = false := by simp; omega
      clear hok
      rcases hmm with ⟨h1, h2⟩ | ⟨h1, h2, h3, h4⟩
      all_goals
        go_enter Try.func5, Try.ntmps5
        go_wp2_with (first
          | (go_at_call 8; (with_reducible refine (awake_any _).mono ?_); rintro e w1 ⟨rfl, hbn⟩; replace hb := hb.trans (hbn.mono hb.size); clear hbn)
          | (go_at_call 9; (with_reducible refine (HP.out _).mono ?_); rintro e w2 ⟨a2, c2, rfl, hown, hbn⟩; replace hb := hb.trans (hbn.mono hb.size); clear hbn)
          | (go_at_call 12; (with_reducible refine (HB.out _ _ _ _ hown.rd).mono ?_); rintro e w' ⟨rfl, rfl⟩)
          | (go_at_call 11; (with_reducible refine (HSX.out _).mono ?_); rintro e w' ⟨rfl, rfl⟩)
          | (go_at_call 11; (with_reducible refine (HSM.out _).mono ?_); rintro e w' ⟨rfl, rfl⟩))
        go_ret
        exact ⟨rfl, hb⟩
end Go.Proofs.Ytmlphlljllcclaa
