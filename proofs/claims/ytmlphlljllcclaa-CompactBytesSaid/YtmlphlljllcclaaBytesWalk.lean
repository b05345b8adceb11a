/- The walk of the law CompactBytes. -/
import Derived.Test.YtmlphlljllcclaaOnceWalk
namespace Go.Proofs.Ytmlphlljllcclaa
open Go.RowKit Go.Fl
set_option linter.unusedSimpArgs false
set_option linter.unusedVariables false

set_option maxHeartbeats 2000000 in
theorem bytesl_any (a : Option Addr) (n cap : Nat) (l : List UInt8) (a' : Option Addr) (n' cap' : Nat) (l' : List UInt8) (w : World) (hr : Rd w 1 a n cap (bc l)) (hr' : Rd w 1 a' n' cap' (bc l')) :
    Calls Try.prog 7 #[.slice a n cap, .slice a' n' cap'] w fun e w' => e = .returned (.bool true) ∧ Below w.heap.size w w' := by
  have hmax := hr.max
  have hle := hr.le
  have hll : l.length = n := by simpa using hr.len
  have hll' : l'.length = n' := by simpa using hr'.len
  unfold maxLen at hmax
  have HR := Bx.mk hr
  have HR' := Bx.mk hr'
  clear hr hr'
  by_cases hbig : 1000 < n
  · clear hll hll'
    go_enter Try.func7, Try.ntmps7
    go_wp2_with (go_at_call 8; (with_reducible refine (awake_any _).mono ?_); rintro e w1 ⟨rfl, hb1⟩)
    go_ret
    exact ⟨rfl, hb1⟩
  by_cases hbig' : 1000 < n'
  · clear hll hll'
    go_enter Try.func7, Try.ntmps7
    go_wp2_with (go_at_call 8; (with_reducible refine (awake_any _).mono ?_); rintro e w1 ⟨rfl, hb1⟩)
    go_ret
    exact ⟨rfl, hb1⟩
  have HP := Bx.mk (fun W => compact_put none 0 0 [] (n : Int) W (Rd.nil _ _) (by omega) (by omega) (by omega))
  simp only [Int.toNat_natCast, Nat.zero_add, List.nil_append] at HP
  have e1 := bytesN_put l l' (by omega)
  have e2 := bytesN_less l l' (by omega)
  have e3 := bytesN_short l l' (by omega)
  rw [hll] at e1 e2 e3
  have hc := sizeN_cases n
  have hp := putN_length n
  generalize hs : sizeN n = s at *
  generalize hpp : putN n = p at *
  have hs9 : s ≤ 9 := by omega
  have hs1 : 1 ≤ s := by omega
  clear hc hs hpp
  have HB1 := Bx.mk (fun a c W h => compact_bytes a (s + n + n') c (p ++ l ++ l') (n : Int) W h (by omega) (by omega) (by omega))
  have HB2 := Bx.mk (fun a c W h => compact_bytes a (s + n + n') c (p ++ l ++ l') ((n : Int) - 1) W h (by omega) (by omega) (by omega))
  have HB3 := Bx.mk (fun a c W h => compact_bytes a (s + n - 1) c ((p ++ l ++ l').take (s + n - 1)) (n : Int) W h (by omega) (by omega) (by omega))
  rw [e1] at HB1
  rw [e2] at HB2
  rw [e3] at HB3
  simp only [hll, List.length_nil] at HB1 HB2 HB3
  clear hll hll' e1 e2 e3 hp
  have hb : Below w.heap.size w w := Below.refl _ _
  go_enter Try.func7, Try.ntmps7
  go_wp2_with (first
      | (go_at_call 8; (with_reducible refine (awake_any _).mono ?_); rintro e w1 ⟨rfl, hbn⟩; replace hb := hb.trans (hbn.mono hb.size); clear hbn)
      | (go_at_call 9; (with_reducible refine (HP.out _).mono ?_); rintro e w2 ⟨a2, c2, rfl, hown, hbn⟩; have hB := hb.size; have hbq := hb.trans (hbn.mono hb.size); replace hown := hown.base hB; clear hB hb hbn)
      | (at_builtin; refine app_bytes rfl (.tmp 36) (.tmp 37) rfl w.heap.size _ _ _ p rfl hown _ _ _ l rfl (HR.out.mono hbq) (by omega) hbq.size ?_; rintro a3 c3 w3 hown3 hg3; have hb3 := hown.below hbq hbq.size hg3; clear hown hbq hg3)
      | (at_builtin; refine app_bytes rfl (.tmp 39) (.tmp 40) rfl w.heap.size _ _ _ (p ++ l) rfl hown3 _ _ _ l' rfl (HR'.out.mono hb3) (by omega) hb3.size ?_; rintro a4 c4 w4 hown4 hg4; have hb4 := hown3.below hb3 hb3.size hg4; clear hown3 hb3 hg4))
  have hRA := Bx.mk hown4.rd
  have hlt1 : (s : Int) + n - 1 < (s : Int) + n + n' := by omega
  obtain ⟨q, hq⟩ : ∃ q, s + n - 1 = q := ⟨_, rfl⟩
  rw [hq] at HB3
  obtain ⟨hi, hhi, hcase⟩ : ∃ hi : Int, hi = q ∧ ((0 < (s : Int) + n - 1 ∧ hi = (s : Int) + n - 1) ∨ (¬ 0 < (s : Int) + n - 1 ∧ hi = 0)) := by
    by_cases h : 0 < (s : Int) + n - 1
    · exact ⟨_, by omega, .inl ⟨h, rfl⟩⟩
    · exact ⟨_, by omega, .inr ⟨h, rfl⟩⟩
  have hqn : q ≤ s + n + n' := by omega
  clear hq
  rcases hcase with ⟨h, rfl⟩ | ⟨h, rfl⟩
  all_goals
    have hR5 := Bx.mk (rd_take hRA.out q (by omega))
    have hc5 := hR5.out.le
    have hb4' := Bx.mk hb4
    clear hown4 hb4
    go_wp2_with fail
    (with_reducible refine (HB1.out _ _ _ hRA.out).mono ?_)
    rintro e w5 ⟨a6, c6, rfl, ho6, hbn⟩
    have hb5 := hb4'.out.trans (hbn.mono hb4'.out.size)
    have hRA5 := hRA.out.mono hbn
    have hR55 := hR5.out.mono hbn
    clear hbn
    go_wp2_with fail
    (with_reducible refine (HB2.out _ _ _ hRA5).mono ?_)
    rintro e w6 ⟨a7, c7, rfl, ho7, hbn⟩
    have hb6 := hb5.trans (hbn.mono hb5.size)
    have hR56 := hR55.mono hbn
    have ho66 := ho6.mono hbn
    clear hbn ho7 hb5 hRA5 hR55 ho6
    go_wp2_with fail
    (with_reducible refine (HB3.out _ _ _ hR56).mono ?_)
    rintro e w7 ⟨a8, c8, rfl, ho8, hbn⟩
    have hb7 := hb6.trans (hbn.mono hb6.size)
    have hs6 := conv_str (ho66.mono hbn).rd
    have hs0 := conv_str (HR.out.mono hb7)
    clear hbn ho8 hb6 ho66 hR56
    go_wp2
    go_ret
    exact ⟨rfl, hb7⟩
end Go.Proofs.Ytmlphlljllcclaa
