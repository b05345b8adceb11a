/- The statement TxBack holds: for every input that can be read the law returns true and leaves what was there as it was. -/
import Derived.Test.YtkcapmodgkficaaRows
import Derived.WalkKit
import Derived.ProofKit
import Derived.OpenShut
import Derived.ShutString
import Derived.ChangeOld
import Derived.Below
import Derived.Test.YtkcapmodgkficaaV19
import Derived.Test.YtkcapmodgkficaaTxE
namespace Go.Proofs.Ytkcapmodgkficaa.txBack
open Go.ChangeShapes Go.WideShapes Go.ChangeAt Go.RowKit Go.Vx
set_option linter.unusedVariables false
set_option linter.unusedSimpArgs false

theorem own : ownKnob Try.prog.godebug = none := by kernel_rfl
theorem laidOut : laidOutB Try.prog = true := by kernel_rfl

theorem walk (w : World) (v0 : Value) (u0 : V) (H0 : HasT true [.int .u32, .sl true (List.replicate 32 (.int .u8) ++ [.int .u32] ++ [.sl false [.int .u8]] ++ [.int .u32]), .sl true [.int .u64, .sl false [.int .u8]], .int .u32] u0) (P0 : PRel w (fun _ => True) u0 v0) (v1 : Value) (u1 : V) (H1 : HasT false [.sl false [.int .u8]] u1) (P1 : PRel w (fun _ => True) u1 v1) (v2 : Value) (u2 : V) (H2 : HasT false [.int .i64] u2) (P2 : PRel w (fun _ => True) u2 v2) :
    Calls Try.prog 3 #[v0, v1, v2] w fun e w' => e = .returned (.bool true) ∧ Below w.heap.size w w' := by
  have h := txBack_v u0 H0 u1 H1 u2 H2
  refine (h.call w (fun _ => True) #[v0, v1, v2] (fun _ _ => trivial) rfl ?_).mono ?_
  · intro j v c hv hc
    match j with
    | 0 => simp only [List.getElem?_cons_zero, List.getElem?_cons_succ, List.getElem?_toArray, Option.some.injEq] at hv hc; subst hv; subst hc; exact P0
    | 1 => simp only [List.getElem?_cons_zero, List.getElem?_cons_succ, List.getElem?_toArray, Option.some.injEq] at hv hc; subst hv; subst hc; exact P1
    | 2 => simp only [List.getElem?_cons_zero, List.getElem?_cons_succ, List.getElem?_toArray, Option.some.injEq] at hv hc; subst hv; subst hc; exact P2
    | j + 3 => simp at hv
  · rintro e w' ⟨c, rfl, hb, hret⟩
    have hret' : PRel w' (fun _ => True) (.b true) c := hret
    cases hret'
    exact ⟨rfl, hb⟩

set_option maxRecDepth 100000 in
theorem lifted (os : Os) (started : os.Started) (H : Type) (enc : TypeId × Value → H) :
    ReturnsInHanded {} Try.checked os 3 .any (Rows.txBackSpec.pre6 enc Try.prog Try.f3 Rows.txBackRow.domain false) (Rows.txBackSpec.post enc Try.prog Try.f3 false true false false) := by
  refine returnsInHanded_of_change (C := Try.checked) own started (by kernel_rfl) Try.func3
    (ChangeSpec.witness6 (enc := enc) (C := Try.checked) false ⟨#[], #[.agg #[.int .u32 0, .slice none 0 0, .slice none 0 0, .int .u32 0], .slice none 0 0, .int .i64 0], []⟩ 8 (by kernel_rfl) (by kernel_rfl) (by kernel_rfl) (by kernel_rfl)) ?_
  intro W base args ds gs before hval0 hW hcnd _
  have hval : ∀ (j : Nat) t v, Try.f3.params[j]? = some t → args[j]? = some v → Value.okWide Try.prog W .any base t v := hval0
  have hW' := hW
  obtain ⟨p, q, hA0, hV, rfl, hfz, hnd⟩ := hW
  have hA : DataW.TrodAll enc Try.prog W 0 (fun _ => true) true Try.f3.params.toList args.toList ds p := hA0
  rw [Try.params3] at hA hval
  obtain ⟨v0, vs0, d0, ds0, p0, q0, hargs, rfl, rfl, h0, r0⟩ := trodAll_cons hA
  obtain ⟨v1, vs1, d1, ds1, p1, q1, rfl, rfl, rfl, h1, r1⟩ := trodAll_cons r0
  obtain ⟨v2, vs2, d2, ds2, p2, q2, rfl, rfl, rfl, h2, r2⟩ := trodAll_cons r1
  obtain ⟨rfl, rfl, rfl⟩ := trodAll_nil r2
  obtain rfl : args = #[v0, v1, v2] := by cases args; simp_all
  obtain ⟨rfl, rfl⟩ := trodVars_none hV
  have k0 := h0
  have lt0 : ∀ x ∈ p0, x.block < W.heap.size := by obtain ⟨m, hm⟩ := k0; exact DataW.trod_lt m _ _ _ hm
  have ok0 : Value.okWide Try.prog W .any base 26 v0 := hval 0 26 v0 rfl rfl
  obtain ⟨u0, H0, P0⟩ := arg_v (P := Try.prog) (n := 8) (ag := true) (row := [.int .u32, .sl true (List.replicate 32 (.int .u8) ++ [.int .u32] ++ [.sl false [.int .u8]] ++ [.int .u32]), .sl true [.int .u64, .sl false [.int .u8]], .int .u32]) (by kernel_rfl) ok0 h0
  have k1 := h1
  have lt1 : ∀ x ∈ p1, x.block < W.heap.size := by obtain ⟨m, hm⟩ := k1; exact DataW.trod_lt m _ _ _ hm
  have ok1 : Value.okWide Try.prog W .any base 27 v1 := hval 1 27 v1 rfl rfl
  obtain ⟨u1, H1, P1⟩ := arg_v (P := Try.prog) (n := 8) (ag := false) (row := [.sl false [.int .u8]]) (by kernel_rfl) ok1 h1
  have k2 := h2
  have lt2 : ∀ x ∈ p2, x.block < W.heap.size := by obtain ⟨m, hm⟩ := k2; exact DataW.trod_lt m _ _ _ hm
  have ok2 : Value.okWide Try.prog W .any base 3 v2 := hval 2 3 v2 rfl rfl
  obtain ⟨u2, H2, P2⟩ := arg_v (P := Try.prog) (n := 8) (ag := false) (row := [.int .i64]) (by kernel_rfl) ok2 h2
  clear hA0 hval0
  refine (walk W v0 u0 H0 P0 v1 u1 H1 P1 v2 u2 H2 P2).mono fun e W' ⟨he, bel⟩ => ?_
  subst he
  exact ⟨_, rfl, _, _, _, [], _, [], hW', trodAll_mk1 (shut_bool Try.underlying4 _), (trodAll_cons_mk (Below.trod laidOut (by kernel_rfl) (of_decide_eq_true (by kernel_rfl)) k0 bel lt0) (trodAll_cons_mk (Below.trod laidOut (by kernel_rfl) (of_decide_eq_true (by kernel_rfl)) k1 bel lt1) (trodAll_cons_mk (Below.trod laidOut (by kernel_rfl) (of_decide_eq_true (by kernel_rfl)) k2 bel lt2) trodAll_mk0))), rfl, bel.frame _, fun h => by cases h⟩

theorem over : Rows.txBackRow.holds Try.pinned (OpenSpec.ofChange Rows.txBackSpec) :=
  OpenClaim.holds_of_wide 3 Try.f3 rfl rfl rfl rfl rfl rfl rfl ⟨rfl, rfl, rfl, rfl, rfl⟩ rfl rfl rfl rfl rfl (by kernel_rfl) Try.func3 (by kernel_rfl)
    (of_decide_eq_true (by kernel_rfl)) (by unfold Func.isWrapper; first | (rw [if_pos (by decide +kernel)]; kernel_rfl) | (rw [if_neg (by decide +kernel)]; exact ⟨rfl, rfl⟩))
    (fun os started H enc _ => lifted os started H enc)

theorem proved : Rows.TxBackSaid := over
#print axioms proved
end Go.Proofs.Ytkcapmodgkficaa.txBack
