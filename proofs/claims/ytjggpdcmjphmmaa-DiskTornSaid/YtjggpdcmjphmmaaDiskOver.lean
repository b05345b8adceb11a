/- The walk of the disk's over. -/
import Derived.Test.YtjggpdcmjphmmaaDiskWalk2
namespace Go.Proofs.Ytjggpdcmjphmmaa
open Go.RowKit Go.Fl
set_option linter.unusedSimpArgs false
set_option linter.unusedVariables false

def clip (z : Int) : Nat := (max 0 (min z 32)).toNat

set_option maxHeartbeats 1000000 in
theorem disk_over (F : FuncId) (capt : Array Value) (hcf : ∀ args W, (callFunc F args).run Try.prog W = .ok (.enter F args) W) (mi : Nat → Int) (a : Option Addr) (n cap : Nat) (b : Option Addr) (m c : Nat) (D : Dk) (w : World)
    (hr : RdD w a n cap b m c D) (hs : saneB D = true)
    (hf : ∀ i W, i < m → Below w.heap.size w W → Calls Try.prog F (#[.int .i64 i] ++ capt) W fun e w' => e = .returned (.int .i64 (mi i)) ∧ Below W.heap.size W w') :
    Calls Try.prog 27 #[.agg #[.slice a n cap, .slice b m c], .func (.func F) #[] capt] w fun e w' => ∃ a' c', e = .returned (.slice a' n c') ∧ Own w' w.heap.size 5 1 a' n c' (bc (laid (fun i => clip (mi i)) 0 D.2 D.1)) ∧ Below w.heap.size w w' := by
  obtain ⟨hl1, hl2⟩ := hr.len
  obtain ⟨hz1, hz2, hz3⟩ := sane_sizes hs
  rw [hl1] at hz1 hz2
  rw [hl2] at hz3
  have hn : n ≤ 131103 := by omega
  have hb0 : Below w.heap.size w (w.alloc (.cells #[.slice a n cap, .slice b m c] 31)) := (Below.refl _ _).alloc (Nat.le_refl _) _
  have HCL := Bx.mk (fun W h => bytes_clone a n cap D.1 W h (by omega))
  have HR := Bx.mk hr
  have HF := Bx.mk hf
  have HSW := Bx.mk (fun i hi => sane_write hs i hi)
  have HL1 := Bx.mk hl1
  have HL2 := Bx.mk hl2
  obtain ⟨R, hR⟩ : ∃ R, laid (fun i => clip (mi i)) 0 D.2 D.1 = R := ⟨_, rfl⟩
  have HRES := Bx.mk hR
  rw [hR]
  have hmc : m ≤ c := by obtain ⟨css, h, _⟩ := hr.pend; exact h.le
  have hcm : c ≤ maxLen := by obtain ⟨css, h, _⟩ := hr.pend; exact h.max
  unfold maxLen at hcm
  clear hr hf hs hl1 hl2 hR hz1 hz2
  go_enter Try.func27, Try.ntmps27
  go_wp2_with (go_at_call 30; (with_reducible refine (HCL.out _ (HR.out.mono hb0).base).mono ?_); rintro e w2 ⟨a2, c2, rfl, hown, hbn⟩; obtain ⟨q0, q1, q2, -⟩ := box2 hbn; have hb2 := hb0.trans (hbn.mono hb0.size); replace hown := hown.base hb0.size; clear hbn)
  have HOWN := Bx.mk hown
  clear hown hb0
  go_loopw [6, 7, 14] (fun _ _ i wr => ∃ (k : Nat) (cur : List UInt8), k ≤ m ∧ i = .int .i64 k ∧ Own wr w.heap.size 5 1 a2 n c2 (bc cur) ∧ Below w.heap.size w wr ∧ Bx (laid (fun i => clip (mi i)) k (D.2.drop k) cur = R)) (fun _ _ i _ => m - (intOf i).toNat)
  case atStart => exact ⟨0, D.1, Nat.zero_le _, rfl, HOWN.out, hb2, ⟨HRES.out⟩⟩
  case round =>
    obtain ⟨k, cur, hk, rfl, hown, hbk, hrest⟩ := hrel
    have HO := Bx.mk hown
    clear hown q0 q1 q2 hb2 HOWN
    by_cases hlt : k < m
    · have hk2 : k < D.2.length := by rw [HL2.out]; exact hlt
      obtain ⟨b', off, cs, hb', _, ⟨da, dn, dc, rfl, hrd⟩, hc⟩ := (HR.out.mono hbk).pend.elem (by decide) k hk2
      obtain ⟨hs1, hs2, hs3⟩ := HSW.out k hk2
      have hdn : (D.2[k]'hk2).2.length = dn := by simpa using hrd.len
      have hc0 : wr.cell? ⟨b', off + k * 2, none⟩ = some (.int .i64 (D.2[k]'hk2).1) := hc 0 _ rfl
      have hc1 : wr.cell? ⟨b', off + k * 2 + 1, none⟩ = some (.slice da dn dc) := hc 1 _ rfl
      have hdrop : D.2.drop k = D.2[k]'hk2 :: D.2.drop (k + 1) := List.drop_eq_getElem_cons hk2
      have hrest' := hrest.out
      rw [hdrop] at hrest'
      have HREST := Bx.mk hrest'
      rw [HL1.out] at hs3
      generalize D.2[k]'hk2 = x at *
      obtain ⟨at_, data⟩ := x
      dsimp only at hs1 hs2 hs3 hdn hrd hc0
      obtain rfl : dn = 32 := by omega
      obtain ⟨p, rfl⟩ := Int.eq_ofNat_of_zero_le hs2
      obtain ⟨g, rfl, hg1, hg2⟩ := HO.out.form (by omega)
      have hnc := HO.out.rd.le
      have hcm2 := HO.out.rd.max
      unfold maxLen at hcm2
      have HRD := Bx.mk hrd
      have hfk := HF.out k
      subst hb'
      have hb3 := fun o => hbk.alloc hbk.size o
      have HFK := Bx.mk (fun W (hW : Below (wr.alloc (.cells #[.int .i64 (p : Int), .slice da 32 dc] 51)).heap.size (wr.alloc (.cells #[.int .i64 (p : Int), .slice da 32 dc] 51)) W) => hfk W hlt ((hb3 _).trans (hW.mono (hb3 _).size)))
      have HSEC := Bx.mk (fun W => disk_sector g 0 n c2 (p : Int) W (by omega) (by omega) hnc (by omega))
      have hx0 : ∀ X : AW (wr.alloc (.cells #[.int .i64 (p : Int), .slice da 32 dc] 51)), X.val.cell? ⟨wr.heap.size, 0, none⟩ = some (.int .i64 (p : Int)) := fun X => (box2 X.aft).1
      have hx1 : ∀ X : AW (wr.alloc (.cells #[.int .i64 (p : Int), .slice da 32 dc] 51)), X.val.cell? ⟨wr.heap.size, 1, none⟩ = some (.slice da 32 dc) := fun X => (box2 X.aft).2.1
      have HST := Bx.mk (show laid (fun i => clip (mi i)) (k + 1) (D.2.drop (k + 1)) (splice cur (32 * p) (data.take (clip (mi k)))) = R by have := HREST.out; simpa [laid] using this)
      clear hrest' hdrop hc hfk hrd hdn HREST hrest
      generalize mi k = z at *
      have hz : (z ≤ 0 ∧ clip z = 0) ∨ (0 < z ∧ z ≤ 32 ∧ clip z = z.toNat) ∨ (32 < z ∧ clip z = 32) := by unfold clip; omega
      go_wp2_with fail
      have hdc := HRD.out.le
      rcases hz with ⟨hz4, hq⟩ | ⟨hz4, hz5, hq⟩ | ⟨hz4, hq⟩
      all_goals
        rw [hq] at HST
        clear hq
        refine wp_region_free 12 (An [(3, fun v _ => v = .slice (some ⟨g, 32 * p, none⟩) 32 32), (8, fun v _ => v = .int .i64 z)]) (by kernel_rfl) (by kernel_rfl) (An_lasts ?_) ?_
        · intro q hq
          simp only [List.mem_cons, List.not_mem_nil, or_false] at hq
          rcases hq with rfl | rfl
          · exact lasts_eq _
          · exact lasts_eq _
        simp only [List.take_succ_cons, List.take_zero]
        refine wpG_quiets 3 rfl rfl ?_
        simp only [List.take_succ_cons, List.take_zero, List.drop_succ_cons, List.drop_zero]
        repeat (go_big_quiet_step (fail))
        refine wpQuiet_nil ?_
        refine wpG_make _ rfl rfl (fun W hW => ?_) (fun v W hW hF K hK => ?_)
        · unfold mkAt
          go_simp
          refine mk_enter ((HSEC.out W).mono ?_)
          rintro e w' ⟨rfl, rfl⟩
          exact ⟨_, rfl, by simp, St.refl _⟩
        obtain rfl := hF
        clear hW W
        simp only [Act.put, List.setIfInBounds_toArray, List.set_cons_succ, List.set_cons_zero]
        refine hK _ _ ?_
        clear hK K
        refine wpG_quiets 4 rfl rfl ?_
        simp only [List.take_succ_cons, List.take_zero, List.drop_succ_cons, List.drop_zero]
        repeat (go_big_quiet_step (fail))
        refine wpQuiet_nil ?_
        refine wpG_make _ rfl rfl (fun W hW => ?_) (fun v W hW hF K hK => ?_)
        · unfold mkAt
          go_simp
          refine mk_enter ((HFK.out W hW.below).mono ?_)
          rintro e w' ⟨rfl, hbq⟩
          exact ⟨_, rfl, rfl, hbq⟩
        obtain rfl := hF
        clear hW W
        simp only [Act.put, List.setIfInBounds_toArray, List.set_cons_succ, List.set_cons_zero]
        refine hK _ _ ?_
        clear hK K
        refine wpG_quiets 3 rfl rfl ?_
        simp only [List.take_succ_cons, List.take_zero, List.drop_succ_cons, List.drop_zero]
        repeat (go_big_quiet_step (fail))
        refine wpQuiet_nil ?_
        refine wpG_nil ?_
        intro w' hb5 _
        have hA := (Below.refl wr.heap.size wr).alloc (Nat.le_refl _) (.cells #[.int .i64 (p : Int), .slice da 32 dc] 51)
        have hw1 := hA.trans (hb5.mono hA.size)
        refine cp_bytes rfl (.tmp 22) (.tmp 30) rfl w.heap.size g n c2 cur (HO.out.mono hw1) (32 * p) 32 32 rfl da _ dc (data.take _) rfl (rd_take (HRD.out.mono hw1) _ ?_) ?_ ?_ ?_
        · omega
        · omega
        · omega
        rintro w3 ho3 hg3
        have hbz := (hbk.trans (hw1.mono hbk.size)).grown hg3 (by have := hw1.size; have := hbk.size; omega) (fun k hk => by cases hk; exact hg1)
        go_wp2
        go_roundw
        case rel => exact ⟨k + 1, _, by omega, by go_num, ho3, hbz, HST⟩
        case measure => simp [intOf]; omega
    · obtain rfl : k = m := by omega
      have E : Bx (cur = R) := ⟨by rw [← hrest.out, List.drop_of_length_le (by rw [HL2.out]; exact Nat.le_refl _)]; rfl⟩
      go_wp2
      go_ret
      rw [← E.out]
      exact ⟨a2, c2, rfl, HO.out, hbk⟩
end Go.Proofs.Ytjggpdcmjphmmaa
