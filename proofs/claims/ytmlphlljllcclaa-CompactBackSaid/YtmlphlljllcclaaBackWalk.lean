/- The walk of the law CompactBack. -/
import Derived.Test.YtmlphlljllcclaaCompactAwake
import Derived.Test.YtmlphlljllcclaaFree
namespace Go.Proofs.Ytmlphlljllcclaa
open Go.RowKit Go.Fl

set_option linter.unusedSimpArgs false
set_option linter.unusedVariables false
set_option maxHeartbeats 1000000 in
theorem back_any (x : Nat) (a : Option Addr) (n cap : Nat) (l : List UInt8) (w : World) (hr : Rd w 1 a n cap (bc l)) (h1 : x < 18446744073709551616) :
    Calls Try.prog 3 #[.int .u64 (x : Int), .slice a n cap] w fun e w' => e = .returned (.bool true) ∧ Below w.heap.size w w' := by
  have hmax := hr.max
  have hle := hr.le
  unfold maxLen at hmax
  have HR := Bx.mk hr
  have h0 : (0 : Int) ≤ x := by omega
  have h1' : (x : Int) < 18446744073709551616 := by omega
  have HP := Bx.mk (fun W => compact_put none 0 0 [] x W (Rd.nil _ _) h0 h1' (by omega))
  have HG := Bx.mk (getN_putN x h1 l)
  have H1 := Bx.mk h1'
  simp only [Int.toNat_natCast] at HP
  clear hr h1 h1'
  by_cases hbig : 1000 < n
  · go_enter Try.func3, Try.ntmps3
    go_wp2_with (go_at_call 8; (with_reducible refine (awake_any _).mono ?_); rintro e w1 ⟨rfl, hb1⟩)
    go_ret
    exact ⟨rfl, hb1⟩
  · go_enter Try.func3, Try.ntmps3
    go_wp2_with fail
    (with_reducible refine (awake_any _).mono ?_)
    rintro e w1 ⟨rfl, hb1⟩
    go_wp2_with fail
    (with_reducible refine (HP.out _).mono ?_)
    rintro e w2 ⟨a2, c2, rfl, hown2, hb2⟩
    have hsz := sizeN_cases x
    have hpl := putN_length x
    rw [Nat.zero_add, List.nil_append] at *
    have hsz9 : sizeN x ≤ 9 := by omega
    have hsz1 : 1 ≤ sizeN x := by omega
    have HS := Bx.mk (show sizeN x = sizeN x from rfl)
    clear hsz HP
    generalize hss : sizeN x = s at *
    generalize hpp : putN x = p at *
    have HSS := Bx.mk hss
    have HPP := Bx.mk hpp
    have HPL := Bx.mk hpl
    have hll := HR.out.len
    simp only [bc_length, Nat.mul_one] at hll
    have hsum : l.length + p.length < 2000 := by omega
    clear hss hpp hpl HS hll
    have hO := own_lit w2 w2.heap.size [] #[] rfl 0 rfl (by omega) (Nat.le_refl _)
    have hb12 := hb1.trans (hb2.mono hb1.size)
    have hR2 := HR.out.mono hb12
    have hbs := hb2.size
    go_wp2_with (first
      | (at_builtin; refine app_bytes rfl (.tmp 22) (.tmp 23) rfl w2.heap.size _ _ _ [] rfl hO _ _ _ p rfl (hown2.rd.alloc _) (by omega) (by simp) ?_; rintro a3 c3 w3 hown3 hg3; have hb3 := hO.below ((Below.refl w2.heap.size w2).alloc (Nat.le_refl _) _) (by simp) hg3; simp only [Nat.zero_add, List.nil_append] at hown3)
      | (at_builtin; refine app_bytes rfl (.tmp 25) (.tmp 26) rfl w2.heap.size _ _ _ p rfl hown3 _ _ _ l rfl (hR2.mono hb3) (by omega) hb3.size ?_; rintro a4 c4 w4 hown4 hg4; have hb4 := hown3.below hb3 hb3.size hg4; clear hg3 hg4 hown3 hb3)
      | (go_at_call 10; (with_reducible refine (compact_get _ _ _ (p ++ l) _ hown4.rd).mono ?_); rintro e w' ⟨rfl, rfl⟩; rw [HG.out]))
    have hP4 := Bx.mk (hown2.rd.mono hb4)
    have hL4 := Bx.mk (hR2.mono hb4)
    have hb04 := hb12.trans (hb4.mono (Nat.le_trans hb1.size hb2.size))
    have HSH := Bx.mk (fun i => getN_short x i)
    rw [HSS.out, HPP.out] at HSH
    clear hown2 hR2 hO hown4 hb1 hb2 hb12 hb4 hbs
    go_loop [11, 12, 13, 14] (fun i _ _ _ => ∃ j : Nat, j ≤ s ∧ i = .int .i64 j) (fun i _ _ _ => s - (intOf i).toNat)
    case atStart => exact ⟨0, by omega, rfl⟩
    case round =>
      obtain ⟨j, hj, rfl⟩ := hrel
      by_cases hlt : j < s
      · have hr5 := rd_take hP4.out j (by omega)
        have hc5 := hr5.le
        have hget := compact_get a2 j c2 (p.take j) w4 hr5
        have hsh := HSH.out j hlt
        rw [hsh] at hget
        have HGET := Bx.mk hget
        clear hget hsh hr5
        go_wp2_with (go_at_call 10; (with_reducible refine HGET.out.mono ?_); rintro e w' ⟨rfl, rfl⟩)
        go_round
        case rel => exact ⟨j + 1, by omega, by go_num⟩
        case measure => simp [intOf]; omega
      · obtain rfl : j = s := by omega
        have HPUT := Bx.mk (fun W hr => compact_put a n cap l x W hr h0 H1.out (by omega))
        have HSIZE := Bx.mk (fun W => compact_size x W h0 H1.out)
        simp only [Int.toNat_natCast] at HPUT HSIZE
        rw [HSS.out, HPP.out] at HPUT
        rw [HSS.out] at HSIZE
        have hcl : ∀ X : AW w4, (convert 23 9 (.slice a n cap)).run Try.prog X.val = .ok (.string (bstr l)) X.val := fun X => conv_str (hL4.out.mono X.aft)
        have hcp : ∀ X : AW w4, (convert 23 9 (.slice a2 j c2)).run Try.prog X.val = .ok (.string (bstr p)) X.val := fun X => conv_str (hP4.out.mono X.aft)
        have hadd : ∀ W, (Op.stringOp .add (bstr l) (bstr p)).run Try.prog W = .ok (.string (bstr (l ++ p))) W := fun W => run_add_bstr W l p (by omega)
        go_wp2_with fail
        refine wp_region_free 34 (An [(15, fun v _ => v = .int .i64 j), (25, fun v W => ∃ a' c', v = .slice a' (n + j) c' ∧ Rd W 1 a' (n + j) c' (bc (l ++ p)))]) (by kernel_rfl) (by kernel_rfl) (An_lasts ?_) ?_
        · intro q hq
          simp only [List.mem_cons, List.not_mem_nil, or_false] at hq
          rcases hq with rfl | rfl
          · exact lasts_eq _
          · rintro v w w' ⟨a', c', rfl, hr⟩ hs
            exact ⟨a', c', rfl, hr.mono hs⟩
        · simp only [List.take_succ_cons, List.take_zero]
          refine wpG_quiets 15 rfl rfl ?_
          simp only [List.take_succ_cons, List.take_zero, List.drop_succ_cons, List.drop_zero]
          repeat (go_big_quiet_step (fail))
          refine wpQuiet_nil ?_
          refine wpG_make _ rfl rfl (fun W hW => ?_) (fun v W hW hF K hK => ?_)
          · unfold mkAt
            go_simp
            refine mk_enter ((HSIZE.out W).mono ?_)
            rintro e w' ⟨rfl, rfl⟩
            exact ⟨_, rfl, rfl, St.refl _⟩
          obtain rfl := hF
          clear hW W
          simp only [Act.put, List.setIfInBounds_toArray, List.set_cons_succ, List.set_cons_zero]
          refine hK _ _ ?_
          clear hK K
          refine wpG_quiets 9 rfl rfl ?_
          simp only [List.take_succ_cons, List.take_zero, List.drop_succ_cons, List.drop_zero]
          repeat (go_big_quiet_step (fail))
          refine wpQuiet_nil ?_
          refine wpG_make _ rfl rfl (fun W hW => ?_) (fun v W hW hF K hK => ?_)
          · unfold mkAt
            go_simp
            refine mk_enter ((HPUT.out W (hL4.out.mono hW.below)).mono ?_)
            rintro e w' ⟨a5, c5, rfl, ho5, hb5⟩
            exact ⟨_, rfl, ⟨a5, c5, rfl, ho5.rd⟩, hb5⟩
          obtain ⟨a5, c5, rfl, -⟩ := hF
          clear hW W
          simp only [Act.put, List.setIfInBounds_toArray, List.set_cons_succ, List.set_cons_zero]
          refine hK _ _ ?_
          clear hK K
          apply wpG_dep 25 rfl rfl (by kernel_rfl)
          focus
            intro W hW hM
            obtain ⟨a6, c6, he, hr6⟩ := hM.2 rfl
            cases he
            have hcv := conv_str hr6
            go_simp
            rfl
          intro K hK
          simp only [Act.put, List.setIfInBounds_toArray, List.set_cons_succ, List.set_cons_zero]
          refine hK _ _ ?_
          clear hK K
          refine wpG_quiets 7 rfl rfl ?_
          simp only [List.take_succ_cons, List.take_zero, List.drop_succ_cons, List.drop_zero]
          repeat (go_big_quiet_step (fail))
          refine wpQuiet_nil ?_
          refine wpG_nil ?_
          intro w' hb5 _
          go_wp2
          go_ret
          exact ⟨rfl, hb04.trans (hb5.mono hb04.size)⟩
end Go.Proofs.Ytmlphlljllcclaa
