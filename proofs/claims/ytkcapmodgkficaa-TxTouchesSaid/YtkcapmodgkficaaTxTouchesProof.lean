/- The statement TxTouches holds: for every input that can be read the law returns true and leaves what was there as it was. -/
import Derived.Test.YtkcapmodgkficaaRows
import Derived.WalkKit
import Derived.ProofKit
import Derived.OpenShut
import Derived.ShutString
import Derived.ChangeOld
import Derived.Below
import Derived.Test.YtkcapmodgkficaaV19
import Derived.Test.YtkcapmodgkficaaTxJ
namespace Go.Proofs.Ytkcapmodgkficaa.txTouches
open Go.ChangeShapes Go.WideShapes Go.ChangeAt Go.RowKit Go.Vx
set_option linter.unusedVariables false
set_option linter.unusedSimpArgs false

theorem own : ownKnob Try.prog.godebug = none := by kernel_rfl
theorem laidOut : laidOutB Try.prog = true := by kernel_rfl

theorem walk (w : World) (v0 : Value) (u0 : V) (H0 : HasT true [.int .u32, .sl true (List.replicate 32 (.int .u8) ++ [.int .u32] ++ [.sl false [.int .u8]] ++ [.int .u32]), .sl true [.int .u64, .sl false [.int .u8]], .int .u32] u0) (P0 : PRel w (fun _ => True) u0 v0) (v1 : Value) (u1 : V) (H1 : HasT false [.sl false [.sl false [.int .u8]]] u1) (P1 : PRel w (fun _ => True) u1 v1) (v2 : Value) (u2 : V) (H2 : HasT false [.sl true (List.replicate 32 (.int .u8))] u2) (P2 : PRel w (fun _ => True) u2 v2) (v3 : Value) (u3 : V) (H3 : HasT false [.int .i64] u3) (P3 : PRel w (fun _ => True) u3 v3) :
    Calls Try.prog 5 #[v0, v1, v2, v3] w fun e w' => e = .returned (.bool true) ∧ Below w.heap.size w w' := by
  have h := txTouches_v u0 H0 u1 H1 u2 H2 u3 H3
  refine (h.call w (fun _ => True) #[v0, v1, v2, v3] (fun _ _ => trivial) rfl ?_).mono ?_
  · intro j v c hv hc
    match j with
    | 0 => simp only [List.getElem?_cons_zero, List.getElem?_cons_succ, List.getElem?_toArray, Option.some.injEq] at hv hc; subst hv; subst hc; exact P0
    | 1 => simp only [List.getElem?_cons_zero, List.getElem?_cons_succ, List.getElem?_toArray, Option.some.injEq] at hv hc; subst hv; subst hc; exact P1
    | 2 => simp only [List.getElem?_cons_zero, List.getElem?_cons_succ, List.getElem?_toArray, Option.some.injEq] at hv hc; subst hv; subst hc; exact P2
    | 3 => simp only [List.getElem?_cons_zero, List.getElem?_cons_succ, List.getElem?_toArray, Option.some.injEq] at hv hc; subst hv; subst hc; exact P3
    | j + 4 => simp at hv
  · rintro e w' ⟨c, rfl, hb, hret⟩
    have hret' : PRel w' (fun _ => True) (.b true) c := hret
    cases hret'
    exact ⟨rfl, hb⟩

set_option maxRecDepth 100000 in
theorem lifted (os : Os) (started : os.Started) (H : Type) (enc : TypeId × Value → H) :
    ReturnsInHanded {} Try.checked os 5 .any (Rows.txTouchesSpec.pre6 enc Try.prog Try.f5 Rows.txTouchesRow.domain false) (Rows.txTouchesSpec.post enc Try.prog Try.f5 false true false false) := by
  refine returnsInHanded_of_change (C := Try.checked) own started (by kernel_rfl) Try.func5
    (ChangeSpec.witness6 (enc := enc) (C := Try.checked) false ⟨#[], #[.agg #[.int .u32 0, .slice none 0 0, .slice none 0 0, .int .u32 0], .slice none 0 0, .slice none 0 0, .int .i64 0], []⟩ 8 (by kernel_rfl) (by kernel_rfl) (by kernel_rfl) (by kernel_rfl)) ?_
  intro W base args ds gs before hval0 hW hcnd _
  have hval : ∀ (j : Nat) t v, Try.f5.params[j]? = some t → args[j]? = some v → Value.okWide Try.prog W .any base t v := hval0
  have hW' := hW
  obtain ⟨p, q, hA0, hV, rfl, hfz, hnd⟩ := hW
  have hA : DataW.TrodAll enc Try.prog W 0 (fun _ => true) true Try.f5.params.toList args.toList ds p := hA0
  rw [Try.params5] at hA hval
  obtain ⟨v0, vs0, d0, ds0, p0, q0, hargs, rfl, rfl, h0, r0⟩ := trodAll_cons hA
  obtain ⟨v1, vs1, d1, ds1, p1, q1, rfl, rfl, rfl, h1, r1⟩ := trodAll_cons r0
  obtain ⟨v2, vs2, d2, ds2, p2, q2, rfl, rfl, rfl, h2, r2⟩ := trodAll_cons r1
  obtain ⟨v3, vs3, d3, ds3, p3, q3, rfl, rfl, rfl, h3, r3⟩ := trodAll_cons r2
  obtain ⟨rfl, rfl, rfl⟩ := trodAll_nil r3
  obtain rfl : args = #[v0, v1, v2, v3] := by cases args; simp_all
  obtain ⟨rfl, rfl⟩ := trodVars_none hV
  have k0 := h0
  have lt0 : ∀ x ∈ p0, x.block < W.heap.size := by obtain ⟨m, hm⟩ := k0; exact DataW.trod_lt m _ _ _ hm
  have ok0 : Value.okWide Try.prog W .any base 26 v0 := hval 0 26 v0 rfl rfl
  obtain ⟨u0, H0, P0⟩ := arg_v (P := Try.prog) (n := 8) (ag := true) (row := [.int .u32, .sl true (List.replicate 32 (.int .u8) ++ [.int .u32] ++ [.sl false [.int .u8]] ++ [.int .u32]), .sl true [.int .u64, .sl false [.int .u8]], .int .u32]) (by kernel_rfl) ok0 h0
  have k1 := h1
  have lt1 : ∀ x ∈ p1, x.block < W.heap.size := by obtain ⟨m, hm⟩ := k1; exact DataW.trod_lt m _ _ _ hm
  have ok1 : Value.okWide Try.prog W .any base 45 v1 := hval 1 45 v1 rfl rfl
  obtain ⟨u1, H1, P1⟩ := arg_v (P := Try.prog) (n := 8) (ag := false) (row := [.sl false [.sl false [.int .u8]]]) (by kernel_rfl) ok1 h1
  have k2 := h2
  have lt2 : ∀ x ∈ p2, x.block < W.heap.size := by obtain ⟨m, hm⟩ := k2; exact DataW.trod_lt m _ _ _ hm
  have ok2 : Value.okWide Try.prog W .any base 46 v2 := hval 2 46 v2 rfl rfl
  obtain ⟨u2, H2, P2⟩ := arg_v (P := Try.prog) (n := 8) (ag := false) (row := [.sl true (List.replicate 32 (.int .u8))]) (by kernel_rfl) ok2 h2
  have k3 := h3
  have lt3 : ∀ x ∈ p3, x.block < W.heap.size := by obtain ⟨m, hm⟩ := k3; exact DataW.trod_lt m _ _ _ hm
  have ok3 : Value.okWide Try.prog W .any base 3 v3 := hval 3 3 v3 rfl rfl
  obtain ⟨u3, H3, P3⟩ := arg_v (P := Try.prog) (n := 8) (ag := false) (row := [.int .i64]) (by kernel_rfl) ok3 h3
  clear hA0 hval0
  refine (walk W v0 u0 H0 P0 v1 u1 H1 P1 v2 u2 H2 P2 v3 u3 H3 P3).mono fun e W' ⟨he, bel⟩ => ?_
  subst he
  exact ⟨_, rfl, _, _, _, [], _, [], hW', trodAll_mk1 (shut_bool Try.underlying4 _), (trodAll_cons_mk (Below.trod laidOut (by kernel_rfl) (of_decide_eq_true (by kernel_rfl)) k0 bel lt0) (trodAll_cons_mk (Below.trod laidOut (by kernel_rfl) (of_decide_eq_true (by kernel_rfl)) k1 bel lt1) (trodAll_cons_mk (Below.trod laidOut (by kernel_rfl) (of_decide_eq_true (by kernel_rfl)) k2 bel lt2) (trodAll_cons_mk (Below.trod laidOut (by kernel_rfl) (of_decide_eq_true (by kernel_rfl)) k3 bel lt3) trodAll_mk0)))), rfl, bel.frame _, fun h => by cases h⟩

theorem over : Rows.txTouchesRow.holds Try.pinned (OpenSpec.ofChange Rows.txTouchesSpec) :=
  OpenClaim.holds_of_wide 5 Try.f5 rfl rfl rfl rfl rfl rfl rfl ⟨rfl, rfl, rfl, rfl, rfl⟩ rfl rfl rfl rfl rfl (by kernel_rfl) Try.func5 (by kernel_rfl)
    (of_decide_eq_true (by kernel_rfl)) (by unfold Func.isWrapper; first | (rw [if_pos (by decide +kernel)]; kernel_rfl) | (rw [if_neg (by decide +kernel)]; exact ⟨rfl, rfl⟩))
    (fun os started H enc _ => lifted os started H enc)

theorem proved : Rows.TxTouchesSaid := over
#print axioms proved
end Go.Proofs.Ytkcapmodgkficaa.txTouches
