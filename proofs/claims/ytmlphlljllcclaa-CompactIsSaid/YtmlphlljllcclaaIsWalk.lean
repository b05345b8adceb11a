/- The walk of the law CompactIs. -/
import Derived.Test.YtmlphlljllcclaaCompactRef3
namespace Go.Proofs.Ytmlphlljllcclaa
open Go.RowKit Go.Fl
set_option linter.unusedSimpArgs false
set_option linter.unusedVariables false

set_option maxHeartbeats 2000000 in
theorem is_any (a : Option Addr) (n cap : Nat) (l : List UInt8) (m : Nat) (most : Int) (w : World) (hr : Rd w 1 a n cap (bc l)) (h1 : m < 18446744073709551616) (h2 : -9223372036854775808 ≤ most) (h3 : most < 9223372036854775808) :
    Calls Try.prog 6 #[.slice a n cap, .int .u64 (m : Int), .int .i64 most] w fun e w' => e = .returned (.bool true) ∧ Below w.heap.size w w' := by
  have hmax := hr.max
  have hle := hr.le
  unfold maxLen at hmax
  have HR := Bx.mk hr
  clear hr
  have hb : Below w.heap.size w w := Below.refl _ _
  by_cases hbig : 1000 < n
  · clear h1 h2 h3
    go_enter Try.func6, Try.ntmps6
    go_wp2_with (go_at_call 8; (with_reducible refine (awake_any _).mono ?_); rintro e w1 ⟨rfl, hb1⟩)
    go_ret
    exact ⟨rfl, hb1⟩
  have h1' : (m : Int) < 18446744073709551616 := by omega
  have K1 := Bx.mk (fun W h => compact_get a n cap l W h)
  have K2 := Bx.mk (fun W h => ref_get a n cap l W h)
  have K3 := Bx.mk (fun W h => compact_bounded a n cap l (m : Int) W h (by omega) h1')
  have K4 := Bx.mk (fun W h => ref_bounded a n cap l (m : Int) W h (by omega) h1')
  have K5 := Bx.mk (fun W h => compact_bytes a n cap l most W h h2 h3 (by omega))
  have K6 := Bx.mk (fun W h => ref_bytes a n cap l most W h h2 h3 (by omega))
  have K7 := Bx.mk (fun W h => compact_put a n cap l (m : Int) W h (by omega) h1' (by omega))
  have K8 := Bx.mk (fun W h => ref_put a n cap l m W h h1 (by omega))
  have K9 := Bx.mk (fun W => compact_size (m : Int) W (by omega) h1')
  have K10 := Bx.mk (fun W => ref_size (m : Int) W (by omega) h1')
  simp only [Int.toNat_natCast] at K3 K4 K7 K9 K10
  clear h1 h1' h2 h3
  generalize getN l = g at *
  generalize boundN l m = bd at *
  generalize bytesN l most = bt at *
  generalize putN m = p at *
  generalize sizeN m = s at *
  go_enter Try.func6, Try.ntmps6
  go_wp2_with (first
      | (go_at_call 8; (with_reducible refine (awake_any _).mono ?_); rintro e w1 ⟨rfl, hbn⟩; replace hb := hb.trans (hbn.mono hb.size); clear hbn)
      | (go_at_call 10; (with_reducible refine (K1.out _ (HR.out.mono hb)).mono ?_); rintro e w' ⟨rfl, rfl⟩)
      | (go_at_call 13; (with_reducible refine (K2.out _ (HR.out.mono hb)).mono ?_); rintro e w' ⟨rfl, rfl⟩)
      | (go_at_call 12; (with_reducible refine (K3.out _ (HR.out.mono hb)).mono ?_); rintro e w' ⟨rfl, rfl⟩)
      | (go_at_call 14; (with_reducible refine (K4.out _ (HR.out.mono hb)).mono ?_); rintro e w' ⟨rfl, rfl⟩)
      | (go_at_call 15; (with_reducible refine (K5.out _ (HR.out.mono hb)).mono ?_); rintro e w5 ⟨a5, c5, rfl, ho5, hbn⟩; replace hb := hb.trans (hbn.mono hb.size); clear hbn)
      | (go_at_call 16; (with_reducible refine (K6.out _ (HR.out.mono hb)).mono ?_); rintro e w6 ⟨a6, c6, rfl, ho6, hbn⟩; have hs5 := (ho5.mono hbn).rd; have hs6 := ho6.rd; replace hb := hb.trans (hbn.mono hb.size); clear hbn ho5 ho6))
  have HS5 := Bx.mk hs5
  have HS6 := Bx.mk hs6
  have HR6 := Bx.mk (HR.out.mono hb)
  have HB := Bx.mk hb
  clear hs5 hs6 hb
  have hc5 : ∀ X : AW w6, (convert 23 9 (.slice a5 bt.1.length c5)).run Try.prog X.val = .ok (.string (bstr bt.1)) X.val := fun X => conv_str (HS5.out.mono X.aft)
  have hc6 : ∀ X : AW w6, (convert 23 9 (.slice a6 bt.1.length c6)).run Try.prog X.val = .ok (.string (bstr bt.1)) X.val := fun X => conv_str (HS6.out.mono X.aft)
  refine wp_region_free 66 (An [(51, RdF (n + s) (l ++ p)), (55, RdF (n + s) (l ++ p)), (61, fun v _ => v = .int .i64 s), (63, fun v _ => v = .int .i64 s)]) (by kernel_rfl) (by kernel_rfl) (An_lasts ?_) ?_
  · intro q hq
    simp only [List.mem_cons, List.not_mem_nil, or_false] at hq
    rcases hq with rfl | rfl | rfl | rfl
    · exact RdF.lasts _ _
    · exact RdF.lasts _ _
    · exact lasts_eq _
    · exact lasts_eq _
  simp only [List.append_eq, List.cons_append, List.nil_append, List.take_succ_cons, List.take_zero]
  refine wpG_quiets 51 rfl rfl ?_
  simp only [List.take_succ_cons, List.take_zero, List.drop_succ_cons, List.drop_zero]
  repeat (go_big_quiet_step (fail))
  refine wpQuiet_nil ?_
  refine wpG_make _ rfl rfl (fun W hW => ?_) (fun v W hW hF K hK => ?_)
  · unfold mkAt
    go_simp
    refine mk_enter ((K7.out W (HR6.out.mono hW.below)).mono ?_)
    rintro e w' ⟨a7, c7, rfl, ho7, hb7⟩
    exact ⟨_, rfl, ⟨a7, c7, rfl, ho7.rd⟩, hb7⟩
  obtain ⟨a7, c7, rfl, -⟩ := hF
  clear hW W
  simp only [Act.put, List.setIfInBounds_toArray, List.set_cons_succ, List.set_cons_zero]
  refine hK _ _ ?_
  clear hK K
  apply wpG_dep 51 rfl rfl (by kernel_rfl)
  focus
    intro W hW hM
    have hcv := conv_str (RdF.rd (hM.2 rfl))
    go_simp
    rfl
  intro K hK
  simp only [Act.put, List.setIfInBounds_toArray, List.set_cons_succ, List.set_cons_zero]
  refine hK _ _ ?_
  clear hK K
  refine wpG_quiets 2 rfl rfl ?_
  simp only [List.take_succ_cons, List.take_zero, List.drop_succ_cons, List.drop_zero]
  repeat (go_big_quiet_step (fail))
  refine wpQuiet_nil ?_
  refine wpG_make _ rfl rfl (fun W hW => ?_) (fun v W hW hF K hK => ?_)
  · unfold mkAt
    go_simp
    refine mk_enter ((K8.out W (HR6.out.mono hW.below)).mono ?_)
    rintro e w' ⟨a8, c8, rfl, ho8, hb8⟩
    exact ⟨_, rfl, ⟨a8, c8, rfl, ho8.rd⟩, hb8⟩
  obtain ⟨a8, c8, rfl, -⟩ := hF
  clear hW W
  simp only [Act.put, List.setIfInBounds_toArray, List.set_cons_succ, List.set_cons_zero]
  refine hK _ _ ?_
  clear hK K
  apply wpG_dep 55 rfl rfl (by kernel_rfl)
  focus
    intro W hW hM
    have hcv := conv_str (RdF.rd (hM.2 rfl))
    go_simp
    rfl
  intro K hK
  simp only [Act.put, List.setIfInBounds_toArray, List.set_cons_succ, List.set_cons_zero]
  refine hK _ _ ?_
  clear hK K
  refine wpG_quiets 4 rfl rfl ?_
  simp only [List.take_succ_cons, List.take_zero, List.drop_succ_cons, List.drop_zero]
  repeat (go_big_quiet_step (fail))
  refine wpQuiet_nil ?_
  refine wpG_make _ rfl rfl (fun W hW => ?_) (fun v W hW hF K hK => ?_)
  · unfold mkAt
    go_simp
    refine mk_enter ((K9.out W).mono ?_)
    rintro e w' ⟨rfl, rfl⟩
    exact ⟨_, rfl, rfl, St.refl _⟩
  obtain rfl := hF
  clear hW W
  simp only [Act.put, List.setIfInBounds_toArray, List.set_cons_succ, List.set_cons_zero]
  refine hK _ _ ?_
  clear hK K
  refine wpG_quiets 1 rfl rfl ?_
  simp only [List.take_succ_cons, List.take_zero, List.drop_succ_cons, List.drop_zero]
  repeat (go_big_quiet_step (fail))
  refine wpQuiet_nil ?_
  refine wpG_make _ rfl rfl (fun W hW => ?_) (fun v W hW hF K hK => ?_)
  · unfold mkAt
    go_simp
    refine mk_enter ((K10.out W).mono ?_)
    rintro e w' ⟨rfl, rfl⟩
    exact ⟨_, rfl, rfl, St.refl _⟩
  obtain rfl := hF
  clear hW W
  simp only [Act.put, List.setIfInBounds_toArray, List.set_cons_succ, List.set_cons_zero]
  refine hK _ _ ?_
  clear hK K
  refine wpG_quiets 2 rfl rfl ?_
  simp only [List.take_succ_cons, List.take_zero, List.drop_succ_cons, List.drop_zero]
  repeat (go_big_quiet_step (fail))
  refine wpQuiet_nil ?_
  refine wpG_nil ?_
  intro w' hb9 _
  go_wp2
  go_ret
  exact ⟨rfl, HB.out.trans (hb9.mono HB.out.size)⟩
end Go.Proofs.Ytmlphlljllcclaa
