/- The walk of the law CompactOnce. -/
import Derived.Test.YtmlphlljllcclaaCompactAwake
import Derived.Test.YtmlphlljllcclaaFree
namespace Go.Proofs.Ytmlphlljllcclaa
open Go.RowKit Go.Fl
set_option linter.unusedSimpArgs false
set_option linter.unusedVariables false

/-- What holds of a new slice of bytes. -/
def RdF (n : Nat) (l : List UInt8) (v : Value) (W : World) : Prop := ∃ a' c', v = .slice a' n c' ∧ Rd W 1 a' n c' (bc l)
theorem RdF.lasts (n : Nat) (l : List UInt8) : Lasts (RdF n l) := by
  rintro v w w' ⟨a', c', rfl, hr⟩ hs
  exact ⟨a', c', rfl, hr.mono hs⟩
theorem RdF.rd {n : Nat} {l : List UInt8} {a : Option Addr} {c : Nat} {W : World} (h : RdF n l (.slice a n c) W) : Rd W 1 a n c (bc l) := by
  obtain ⟨a', c', he, hr⟩ := h
  cases he
  exact hr

set_option maxHeartbeats 1000000 in
theorem once_any (a : Option Addr) (n cap : Nat) (l : List UInt8) (w : World) (hr : Rd w 1 a n cap (bc l)) :
    Calls Try.prog 4 #[.slice a n cap] w fun e w' => e = .returned (.bool true) ∧ Below w.heap.size w w' := by
  have hmax := hr.max
  have hle := hr.le
  have hll : l.length = n := by simpa using hr.len
  unfold maxLen at hmax
  have HR := Bx.mk hr
  by_cases hbig : 1000 < n
  · clear hr
    go_enter Try.func4, Try.ntmps4
    go_wp2_with (go_at_call 8; (with_reducible refine (awake_any _).mono ?_); rintro e w1 ⟨rfl, hb1⟩)
    go_ret
    exact ⟨rfl, hb1⟩
  have HG := Bx.mk (fun W h => compact_get a n cap l W h)
  have hb := getN_bound l
  have ho := getN_once l
  obtain ⟨m, k, z, hg⟩ : ∃ m k z, (m, k, z) = getN l := ⟨_, _, _, rfl⟩
  rw [← hg] at HG hb ho
  dsimp only at HG hb ho
  have hpl := putN_length m
  rw [hll] at hb
  obtain ⟨hb1, hb2, hb3, hb4⟩ := hb
  have HB1 := Bx.mk hb1
  have HL := Bx.mk hll
  clear hr hg hb1 hll
  by_cases hz : z = 0
  · subst hz
    obtain ⟨ho1, ho2⟩ := ho rfl
    rw [ho2] at hpl
    have hk : sizeN m = k := by rw [← hpl]; simp; have := HL.out; omega
    have HP := Bx.mk (fun W => compact_put none 0 0 [] (m : Int) W (Rd.nil _ _) (by omega) (by have := HB1.out; omega) (by omega))
    simp only [Int.toNat_natCast, Nat.zero_add, List.nil_append, hk, ho2] at HP
    have hd1 : decide ((1 : Int) ≤ (k : Int)) = true := by simp; omega
    have hd2 : decide ((k : Int) ≤ (n : Int)) = true := by simp; omega
    have hd3 : (1 : Int) ≤ (k : Int) := by omega
    have hd4 : (k : Int) ≤ (n : Int) := by omega
    clear hb4 ho hpl hk ho2
    go_enter Try.func4, Try.ntmps4
    go_wp2_with fail
    (with_reducible refine (awake_any _).mono ?_)
    rintro e w1 ⟨rfl, hb1⟩
    have hR1 := Bx.mk (HR.out.mono hb1)
    go_wp2_with fail
    (with_reducible refine (HG.out _ hR1.out).mono ?_)
    rintro e w' ⟨rfl, rfl⟩
    have hR2 := Bx.mk (rd_take hR1.out k hb2)
    have hc2 : ∀ X : AW w1, (convert 23 9 (.slice a k cap)).run Try.prog X.val = .ok (.string (bstr (l.take k))) X.val := fun X => conv_str (hR2.out.mono X.aft)
    go_wp2_with fail
    refine wp_region_free 21 (An [(13, RdF k (l.take k))]) (by kernel_rfl) (by kernel_rfl) (An_lasts ?_) ?_
    · intro q hq
      simp only [List.mem_cons, List.not_mem_nil, or_false] at hq
      rcases hq with rfl
      exact RdF.lasts _ _
    simp only [List.take_succ_cons, List.take_zero]
    refine wpG_quiets 13 rfl rfl ?_
    simp only [List.take_succ_cons, List.take_zero, List.drop_succ_cons, List.drop_zero]
    repeat (go_big_quiet_step (fail))
    refine wpQuiet_nil ?_
    refine wpG_make _ rfl rfl (fun W hW => ?_) (fun v W hW hF K hK => ?_)
    · unfold mkAt
      go_simp
      refine mk_enter ((HP.out W).mono ?_)
      rintro e w' ⟨a5, c5, rfl, ho5, hb5⟩
      exact ⟨_, rfl, ⟨a5, c5, rfl, ho5.rd⟩, hb5⟩
    obtain ⟨a5, c5, rfl, -⟩ := hF
    clear hW W
    simp only [Act.put, List.setIfInBounds_toArray, List.set_cons_succ, List.set_cons_zero]
    refine hK _ _ ?_
    clear hK K
    apply wpG_dep 13 rfl rfl (by kernel_rfl)
    focus
      intro W hW hM
      have hcv := conv_str (RdF.rd (hM.2 rfl))
      go_simp
      rfl
    intro K hK
    simp only [Act.put, List.setIfInBounds_toArray, List.set_cons_succ, List.set_cons_zero]
    refine hK _ _ ?_
    clear hK K
    refine wpG_quiets 6 rfl rfl ?_
    simp only [List.take_succ_cons, List.take_zero, List.drop_succ_cons, List.drop_zero]
    repeat (go_big_quiet_step (fail))
    refine wpQuiet_nil ?_
    refine wpG_nil ?_
    intro w' hb5 _
    go_wp2
    go_ret
    exact ⟨rfl, hb1.trans (hb5.mono hb1.size)⟩
  · obtain ⟨rfl, rfl⟩ := hb4 hz
    have hz' : ((z : Int) != 0) = true := by simpa using (by omega : ¬ (z : Int) = 0)
    clear ho hb4 hpl
    go_enter Try.func4, Try.ntmps4
    go_wp2_with fail
    (with_reducible refine (awake_any _).mono ?_)
    rintro e w1 ⟨rfl, hb1⟩
    have hR1 := Bx.mk (HR.out.mono hb1)
    go_wp2_with fail
    (with_reducible refine (HG.out _ hR1.out).mono ?_)
    rintro e w' ⟨rfl, rfl⟩
    go_wp2
    go_ret
    exact ⟨rfl, hb1⟩
end Go.Proofs.Ytmlphlljllcclaa
