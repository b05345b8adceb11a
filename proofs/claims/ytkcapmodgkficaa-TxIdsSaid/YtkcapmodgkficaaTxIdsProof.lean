/- The statement TxIds holds: for every input that can be read the law returns true and leaves what was there as it was. -/
import Derived.Test.YtkcapmodgkficaaRows
import Derived.WalkKit
import Derived.ProofKit
import Derived.OpenShut
import Derived.ShutString
import Derived.ChangeOld
import Derived.Below
import Derived.Test.YtkcapmodgkficaaV19
import Derived.Test.YtkcapmodgkficaaTxM
namespace Go.Proofs.Ytkcapmodgkficaa.txIds
open Go.ChangeShapes Go.WideShapes Go.ChangeAt Go.RowKit Go.Vx
set_option linter.unusedVariables false
set_option linter.unusedSimpArgs false

theorem own : ownKnob Try.prog.godebug = none := by kernel_rfl
theorem laidOut : laidOutB Try.prog = true := by kernel_rfl

theorem walk (w : World) (v0 : Value) (u0 : V) (H0 : HasT true [.int .u32, .sl true (List.replicate 32 (.int .u8) ++ [.int .u32] ++ [.sl false [.int .u8]] ++ [.int .u32]), .sl true [.int .u64, .sl false [.int .u8]], .int .u32] u0) (P0 : PRel w (fun _ => True) u0 v0) (v1 : Value) (u1 : V) (H1 : HasT true [.int .u32, .sl true (List.replicate 32 (.int .u8) ++ [.int .u32] ++ [.sl false [.int .u8]] ++ [.int .u32]), .sl true [.int .u64, .sl false [.int .u8]], .int .u32] u1) (P1 : PRel w (fun _ => True) u1 v1) :
    Calls Try.prog 6 #[v0, v1] w fun e w' => e = .returned (.bool true) ∧ Below w.heap.size w w' := by
  have h := txIds_v u0 H0 u1 H1
  refine (h.call w (fun _ => True) #[v0, v1] (fun _ _ => trivial) rfl ?_).mono ?_
  · intro j v c hv hc
    match j with
    | 0 => simp only [List.getElem?_cons_zero, List.getElem?_cons_succ, List.getElem?_toArray, Option.some.injEq] at hv hc; subst hv; subst hc; exact P0
    | 1 => simp only [List.getElem?_cons_zero, List.getElem?_cons_succ, List.getElem?_toArray, Option.some.injEq] at hv hc; subst hv; subst hc; exact P1
    | j + 2 => simp at hv
  · rintro e w' ⟨c, rfl, hb, hret⟩
    have hret' : PRel w' (fun _ => True) (.b true) c := hret
    cases hret'
    exact ⟨rfl, hb⟩

set_option maxRecDepth 100000 in
theorem lifted (os : Os) (started : os.Started) (H : Type) (enc : TypeId × Value → H) :
    ReturnsInHanded {} Try.checked os 6 .any (Rows.txIdsSpec.pre6 enc Try.prog Try.f6 Rows.txIdsRow.domain false) (Rows.txIdsSpec.post enc Try.prog Try.f6 false true false false) := by
  refine returnsInHanded_of_change (C := Try.checked) own started (by kernel_rfl) Try.func6
    (ChangeSpec.witness6 (enc := enc) (C := Try.checked) false ⟨#[], #[.agg #[.int .u32 0, .slice none 0 0, .slice none 0 0, .int .u32 0], .agg #[.int .u32 0, .slice none 0 0, .slice none 0 0, .int .u32 0]], []⟩ 8 (by kernel_rfl) (by kernel_rfl) (by kernel_rfl) (by kernel_rfl)) ?_
  intro W base args ds gs before hval0 hW hcnd _
  have hval : ∀ (j : Nat) t v, Try.f6.params[j]? = some t → args[j]? = some v → Value.okWide Try.prog W .any base t v := hval0
  have hW' := hW
  obtain ⟨p, q, hA0, hV, rfl, hfz, hnd⟩ := hW
  have hA : DataW.TrodAll enc Try.prog W 0 (fun _ => true) true Try.f6.params.toList args.toList ds p := hA0
  rw [Try.params6] at hA hval
  obtain ⟨v0, vs0, d0, ds0, p0, q0, hargs, rfl, rfl, h0, r0⟩ := trodAll_cons hA
  obtain ⟨v1, vs1, d1, ds1, p1, q1, rfl, rfl, rfl, h1, r1⟩ := trodAll_cons r0
  obtain ⟨rfl, rfl, rfl⟩ := trodAll_nil r1
  obtain rfl : args = #[v0, v1] := by cases args; simp_all
  obtain ⟨rfl, rfl⟩ := trodVars_none hV
  have k0 := h0
  have lt0 : ∀ x ∈ p0, x.block < W.heap.size := by obtain ⟨m, hm⟩ := k0; exact DataW.trod_lt m _ _ _ hm
  have ok0 : Value.okWide Try.prog W .any base 26 v0 := hval 0 26 v0 rfl rfl
  obtain ⟨u0, H0, P0⟩ := arg_v (P := Try.prog) (n := 8) (ag := true) (row := [.int .u32, .sl true (List.replicate 32 (.int .u8) ++ [.int .u32] ++ [.sl false [.int .u8]] ++ [.int .u32]), .sl true [.int .u64, .sl false [.int .u8]], .int .u32]) (by kernel_rfl) ok0 h0
  have k1 := h1
  have lt1 : ∀ x ∈ p1, x.block < W.heap.size := by obtain ⟨m, hm⟩ := k1; exact DataW.trod_lt m _ _ _ hm
  have ok1 : Value.okWide Try.prog W .any base 26 v1 := hval 1 26 v1 rfl rfl
  obtain ⟨u1, H1, P1⟩ := arg_v (P := Try.prog) (n := 8) (ag := true) (row := [.int .u32, .sl true (List.replicate 32 (.int .u8) ++ [.int .u32] ++ [.sl false [.int .u8]] ++ [.int .u32]), .sl true [.int .u64, .sl false [.int .u8]], .int .u32]) (by kernel_rfl) ok1 h1
  clear hA0 hval0
  refine (walk W v0 u0 H0 P0 v1 u1 H1 P1).mono fun e W' ⟨he, bel⟩ => ?_
  subst he
  exact ⟨_, rfl, _, _, _, [], _, [], hW', trodAll_mk1 (shut_bool Try.underlying4 _), (trodAll_cons_mk (Below.trod laidOut (by kernel_rfl) (of_decide_eq_true (by kernel_rfl)) k0 bel lt0) (trodAll_cons_mk (Below.trod laidOut (by kernel_rfl) (of_decide_eq_true (by kernel_rfl)) k1 bel lt1) trodAll_mk0)), rfl, bel.frame _, fun h => by cases h⟩

theorem over : Rows.txIdsRow.holds Try.pinned (OpenSpec.ofChange Rows.txIdsSpec) :=
  OpenClaim.holds_of_wide 6 Try.f6 rfl rfl rfl rfl rfl rfl rfl ⟨rfl, rfl, rfl, rfl, rfl⟩ rfl rfl rfl rfl rfl (by kernel_rfl) Try.func6 (by kernel_rfl)
    (of_decide_eq_true (by kernel_rfl)) (by unfold Func.isWrapper; first | (rw [if_pos (by decide +kernel)]; kernel_rfl) | (rw [if_neg (by decide +kernel)]; exact ⟨rfl, rfl⟩))
    (fun os started H enc _ => lifted os started H enc)

theorem proved : Rows.TxIdsSaid := over
#print axioms proved
end Go.Proofs.Ytkcapmodgkficaa.txIds
