/- The disk's functions that were walked with memory, as values without it; what is built on them. -/
import Derived.Test.YtjggpdcmjphmmaaDV1
import Derived.Test.YtjggpdcmjphmmaaV18
import Derived.Test.YtjggpdcmjphmmaaDiskOver
namespace Go.Proofs.Ytjggpdcmjphmmaa
open Go.Vx Go.Fl Go.RowKit
set_option maxRecDepth 100000
set_option maxHeartbeats 4000000
set_option linter.unusedSimpArgs false
set_option linter.unusedVariables false

theorem clone_ok (l : List UInt8) (hl : l.length ≤ 70368744177664) : VPure Try.prog 30 [.sl 1 (bv l) .no] (.sl 1 (bv l) (.own 5)) := by
  refine ⟨enters_of Try.func30 rfl rfl, fun w S cargs hS hn hr => ?_⟩
  obtain ⟨c, rfl⟩ := arr1 hn
  obtain ⟨a, cap, rfl, hrd⟩ := bytes_of_prel (hr 0 _ c rfl rfl)
  refine (bytes_clone a l.length cap l w hrd hl).mono ?_
  rintro e w' ⟨a', cap', rfl, ho, hb⟩
  exact ⟨_, rfl, hb, own_ret hS ho⟩

theorem rdd_of_prel {w : World} {S : Addr → Prop} {D : Dk} {c : Value} (h : PRel w S (dv D) c) : ∃ a cap b cap2, c = .agg #[.slice a D.1.length cap, .slice b D.2.length cap2] ∧ RdD w a D.1.length cap b D.2.length cap2 D := by
  obtain ⟨ds, rfl, hl, hr⟩ := h.get
  obtain ⟨c0, c1, rfl⟩ := arr2 hl.symm
  obtain ⟨a, cap, rfl, h1⟩ := bytes_of_prel (hr 0 _ c0 rfl rfl)
  obtain ⟨b, cap2, rfl, h3⟩ := rdl_of_prel (E := DW) (fun x cs _ hcl hk => by
    obtain ⟨d0, e0, p0⟩ := hk 0 _ rfl
    obtain ⟨d1, e1, p1⟩ := hk 1 _ rfl
    obtain ⟨a, cap, q0, q1⟩ := bytes_of_prel p1
    match cs, hcl with
    | [c0, c1], _ =>
      simp only [List.getElem?_cons_zero, List.getElem?_cons_succ, Option.some.injEq] at e0 e1
      subst e0; subst e1; subst q0
      cases p0
      exact ⟨a, _, cap, rfl, q1⟩) (hr 1 _ c1 rfl rfl)
  exact ⟨a, cap, b, cap2, rfl, h1, h3⟩

theorem over_ok (D : Dk) (hs : saneB D = true) (F : FuncId) (caps : List V) (mi : Nat → Int) (hF : Enters Try.prog F) (hf : ∀ i, i < D.2.length → VPure Try.prog F ([.i .i64 (i : Int)] ++ caps) (.i .i64 (mi i))) :
    VPure Try.prog 27 [dv D, .fn F caps] (.sl 1 (bv (laid (fun i => clip (mi i)) 0 D.2 D.1)) (.own 5)) := by
  refine ⟨enters_of Try.func27 rfl rfl, fun w S cargs hS hn hr => ?_⟩
  obtain ⟨c0, c1, rfl⟩ := arr2 hn
  obtain ⟨a, cap, b, cap2, rfl, h1⟩ := rdd_of_prel (hr 0 _ c0 rfl rfl)
  have h2 := hr 1 _ c1 rfl rfl
  obtain ⟨ds, rfl, hdl, hdr⟩ := h2.get_fn
  clear h2 hr hn
  refine (disk_over F ds hF mi a _ cap b _ cap2 D w h1 hs fun i W hi hb => (hf i hi).int hS hb hdl (.i _ _) hdr).mono ?_
  rintro e w' ⟨a', c', rfl, ho, hb⟩
  exact ⟨_, rfl, hb, own_ret hS ho⟩
end Go.Proofs.Ytjggpdcmjphmmaa
