/- The statement ScriptRows holds: for every input that can be read the law returns true and leaves what was there as it was. -/
import Derived.Test.YtlcdehedojkgoaaDoorRows
import Derived.Test.YtlcdehedojkgoaaDoorTie
import Derived.Test.YtlcdehedojkgoaaDoorCards
import Derived.Test.YtlcdehedojkgoaaDoorGok
import Derived.WalkKit
import Derived.LaidMore
import Derived.LaidOnce
import Derived.SevenTiedAt
import Derived.Stop.Joined
import Derived.ProofKit
import Derived.OpenShut
import Derived.ShutString
import Derived.ChangeOld
import Derived.Below
import Derived.Test.YtlcdehedojkgoaaDoorV19
import Derived.Test.YtlcdehedojkgoaaDoorScH
namespace Go.Proofs.YtlcdehedojkgoaaDoor.scriptRows
open Go.ChangeShapes Go.WideShapes Go.ChangeAt Go.RowKit Go.Vx
set_option linter.unusedVariables false
set_option linter.unusedSimpArgs false

theorem own : ownKnob Tryd.prog.godebug = none := by kernel_rfl
theorem laidOut : laidOutB Tryd.prog = true := by kernel_rfl

theorem walk (w : World) (hG : GOk w (fun _ => True)) (v0 : Value) (u0 : V) (H0 : HasT false [.sl true [.int .i64, .int .i64, .int .i64, .sl false [.int .u8]]] u0) (P0 : PRel w (fun _ => True) u0 v0) (v1 : Value) (u1 : V) (H1 : HasT false [.sl true [.int .i64, .int .i64, .int .i64, .sl false [.int .u8]]] u1) (P1 : PRel w (fun _ => True) u1 v1) :
    Calls Tryd.prog 6 #[v0, v1] w fun e w' => e = .returned (.bool true) ∧ Below w.heap.size w w' := by
  have h := scriptRows_v u0 H0 u1 H1
  refine (h.call w (fun _ => True) #[v0, v1] (fun _ _ => trivial) hG rfl ?_).mono ?_
  · intro j v c hv hc
    match j with
    | 0 => simp only [List.getElem?_cons_zero, List.getElem?_cons_succ, List.getElem?_toArray, Option.some.injEq] at hv hc; subst hv; subst hc; exact P0
    | 1 => simp only [List.getElem?_cons_zero, List.getElem?_cons_succ, List.getElem?_toArray, Option.some.injEq] at hv hc; subst hv; subst hc; exact P1
    | j + 2 => simp at hv
  · rintro e w' ⟨c, rfl, hb, hret⟩
    have hret' : PRel w' (fun _ => True) (.b true) c := hret
    cases hret'
    exact ⟨rfl, hb⟩

set_option maxRecDepth 100000 in
/-- The door's own heap meets the condition. -/
theorem door_met (os : Os) (args : Array Value) : laidMetH Tryd.prog laidL ((World.doorLaid Tryd.prog 400 os).forCall (fun _ _ => 0) ⟨#[], args, []⟩).memory :=
  laidMetH_of_parts3 (fuel := 8) (laidMet_of_run' 8 (by kernel_rfl) (by kernel_rfl)) (by kernel_rfl) (by kernel_rfl)

set_option maxRecDepth 100000 in
theorem lifted (os : Os) (started : os.Started) (H : Type) (enc : TypeId × Value → H) :
    ReturnsInHanded {} Tryd.checked os 6 .any (fun w args => (Rows.scriptRowsSpec.pre enc Tryd.prog Tryd.f6 [] false w args ∧ laidMetH Tryd.prog laidL w) ∧ sizedMet enc Tryd.prog Tryd.f6 (OpenSpec.ofChange Rows.scriptRowsSpec) false w args)
      (Rows.scriptRowsSpec.post enc Tryd.prog Tryd.f6 false true false false) := by
  refine returnsInHanded_of_change_and (C := Tryd.checked) (X := fun w _ => laidMetH Tryd.prog laidL w) (fun _ _ _ hh h => h.of_heap hh) own started (by kernel_rfl) Tryd.func6
    (ChangeSpec.witness_shaped (enc := enc) (C := Tryd.checked) (os := os) (X := fun w _ => laidMetH Tryd.prog laidL w) false (World.doorLaid Tryd.prog 400 os) #[.slice none 0 0, .slice none 0 0] 8 rfl (World.shaped_of_RefB (by kernel_rfl) (by kernel_rfl)) (by kernel_rfl) (by kernel_rfl) (by kernel_rfl) (door_met os _)) ?_
  intro W base args ds gs before hval0 hW hcnd _ hL _
  have hval : ∀ (j : Nat) t v, Tryd.f6.params[j]? = some t → args[j]? = some v → Value.okWide Tryd.prog W .any base t v := hval0
  have hW' := hW
  obtain ⟨p, q, hA0, hV, rfl, hfz, hnd⟩ := hW
  have hA : DataW.TrodAll enc Tryd.prog W 0 (fun _ => true) true Tryd.f6.params.toList args.toList ds p := hA0
  rw [Tryd.params6] at hA hval
  obtain ⟨v0, vs0, d0, ds0, p0, q0, hargs, rfl, rfl, h0, r0⟩ := trodAll_cons hA
  obtain ⟨v1, vs1, d1, ds1, p1, q1, rfl, rfl, rfl, h1, r1⟩ := trodAll_cons r0
  obtain ⟨rfl, rfl, rfl⟩ := trodAll_nil r1
  obtain rfl : args = #[v0, v1] := by cases args; simp_all
  obtain ⟨rfl, rfl⟩ := trodVars_none hV
  have k0 := h0
  have lt0 : ∀ x ∈ p0, x.block < W.heap.size := by obtain ⟨m, hm⟩ := k0; exact DataW.trod_lt m _ _ _ hm
  have ok0 : Value.okWide Tryd.prog W .any base 22 v0 := hval 0 22 v0 rfl rfl
  obtain ⟨u0, H0, P0⟩ := arg_v (P := Tryd.prog) (n := 8) (ag := false) (row := [.sl true [.int .i64, .int .i64, .int .i64, .sl false [.int .u8]]]) (by kernel_rfl) ok0 h0
  have k1 := h1
  have lt1 : ∀ x ∈ p1, x.block < W.heap.size := by obtain ⟨m, hm⟩ := k1; exact DataW.trod_lt m _ _ _ hm
  have ok1 : Value.okWide Tryd.prog W .any base 22 v1 := hval 1 22 v1 rfl rfl
  obtain ⟨u1, H1, P1⟩ := arg_v (P := Tryd.prog) (n := 8) (ag := false) (row := [.sl true [.int .i64, .int .i64, .int .i64, .sl false [.int .u8]]]) (by kernel_rfl) ok1 h1
  clear hA0 hval0
  refine (walk W (gok hL) v0 u0 H0 P0 v1 u1 H1 P1).mono fun e W' ⟨he, bel⟩ => ?_
  subst he
  exact ⟨_, rfl, _, _, _, [], _, [], hW', trodAll_mk1 (shut_bool Tryd.underlying4 _), (trodAll_cons_mk (Below.trod laidOut (by kernel_rfl) (of_decide_eq_true (by kernel_rfl)) k0 bel lt0) (trodAll_cons_mk (Below.trod laidOut (by kernel_rfl) (of_decide_eq_true (by kernel_rfl)) k1 bel lt1) trodAll_mk0)), rfl, bel.frame _, fun h => by cases h⟩

theorem over : Rows.scriptRowsRow.holds Tryd.pinned (OpenSpec.ofChange Rows.scriptRowsSpec) :=
  OpenClaim.holds_of_wide 6 Tryd.f6 rfl rfl rfl rfl rfl rfl rfl ⟨rfl, rfl, rfl, rfl, rfl⟩ rfl rfl rfl rfl rfl (by kernel_rfl) Tryd.func6 (by kernel_rfl)
    (of_decide_eq_true (by kernel_rfl)) (by unfold Func.isWrapper; first | (rw [if_pos (by decide +kernel)]; kernel_rfl) | (rw [if_neg (by decide +kernel)]; exact ⟨rfl, rfl⟩))
    (fun os started H enc _ => lifted os started H enc)

theorem proved : Rows.ScriptRowsCardSaid :=
  Claim7.holds_tied_plain_at .later [] [.listed, .data] true (true, "736305fb52da55def6500c1c0973410683d72ee39e897db24364041400b1cfdc") false
    over (fun _ h => by cases h) (by kernel_rfl) (fun _ h => by cases h) scriptRows_row_tie rfl ⟨rfl, rfl⟩ (by kernel_rfl) rfl
    (fun f fn hf hfn => by
      obtain rfl : f = 6 := Option.some.inj ((show Tryd.prog.funcNamed "florin/florinlaw23.ScriptRows" = some 6 by kernel_rfl).symm.trans hf) |>.symm
      obtain rfl : fn = Tryd.f6 := (Option.some.inj (Tryd.func6.symm.trans hfn)).symm
      exact ⟨by kernel_rfl, fun j t ht => by
        rw [Tryd.params6] at ht
        have hm : t ∈ [22, 22] := by simpa using Array.mem_of_getElem? ht
        have hall : ([22, 22].all fun u => !Tryd.prog.wantsStandIn u) = true := by kernel_rfl
        exact (show Tryd.prog.wantsStandIn t = false by simpa using List.all_eq_true.1 hall t hm)⟩)
    (by kernel_rfl)
#print axioms proved
end Go.Proofs.YtlcdehedojkgoaaDoor.scriptRows
