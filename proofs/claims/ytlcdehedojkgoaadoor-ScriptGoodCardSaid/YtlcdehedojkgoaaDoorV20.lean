/- Functions that are handed objects: their law out of their body; what they leave. -/
import Derived.Test.YtlcdehedojkgoaaDoorV19
namespace Go.Vx
open Go.RowKit Go.Fl
set_option linter.unusedVariables false
set_option linter.unusedSimpArgs false

section
variable {P : Program} {τ : TypeId → Option TyD}

/-- What a function that is handed objects hands back, and leaves. -/
def rret (τ : TypeId → Option TyD) (rs : List ResultVar) (R : V → St → Prop) : Exit → (Nat → V) → St → Prop := fun e fr σ =>
  match e with
  | .normal => ∃ v, vres τ fr σ rs = some v ∧ R v σ
  | .ret => ∃ v, vres τ fr σ rs = some v ∧ R v σ
  | _ => False
theorem rret_n {rs : List ResultVar} {R : V → St → Prop} {fr : Nat → V} {σ : St} : rret τ rs R .normal fr σ = ∃ v, vres τ fr σ rs = some v ∧ R v σ := propext Iff.rfl
theorem rret_r {rs : List ResultVar} {R : V → St → Prop} {fr : Nat → V} {σ : St} : rret τ rs R .ret fr σ = ∃ v, vres τ fr σ rs = some v ∧ R v σ := propext Iff.rfl

theorem ref_of_body (hτ : TyOk P τ) (hm : P.follows .mixedOrders = true) {f : FuncId} {fn : Func} {c : Code} (hf : P.funcs[f]? = some fn) (hb : fn.body = some c) (hname : (fn.name == "runtime.NumGoroutine") = false) (hint : Nat → Nat) (hok : okCode hint true c = true) {args : List V} {σ : St} {R : V → St → Prop}
    (h : σ.WF → vwp P τ hint fn.ntmps c (initFr args) σ (rret τ fn.results.toList R)) : VRef P f args σ R := by
  refine ⟨enters_of hf hname (by rw [hb]; rfl), fun C cargs hσ hl hr => ?_⟩
  have hcw : ∀ cs (Q : Ending → World → Prop), CallsIn (Fr none) 0 P f cs C.w Q → Calls P f cs C.w Q := fun cs Q h => callsIn_wide.1 h
  refine hcw _ _ (callsIn_of_wp_marks hf hb trivial ?_)
  have hfr : FrRel C (initFr args) { tmps := cargs ++ Array.replicate (fn.ntmps - cargs.size) undef, defers := [] } := by
    intro t
    unfold initFr
    cases ht : args[t]? with
    | none => exact .undef _
    | some v =>
      have hlt : t < cargs.size := by rw [← hl]; exact (List.getElem?_eq_some_iff.1 ht).1
      have hc : cargs[t]? = some cargs[t] := Array.getElem?_eq_getElem hlt
      have : (cargs ++ Array.replicate (fn.ntmps - cargs.size) undef).getD t undef = cargs[t] := by
        rw [Array.getD_eq_getD_getElem?, Array.getElem?_append_left hlt, hc]; rfl
      simp only [this]
      exact hr t v _ ht hc
  refine wpIn_mono (vwp_ok hτ hm c none true (fun _ => rfl) (initFr args) _ _ C _ hσ hfr (by simp; omega) hok (h hσ.wf)) ?_
  rintro e a' w' ⟨C', fr', σ', Ds, rfl, x1, x2, x3, x4, x5, xm, x6⟩
  have fin : (∃ v, vres τ fr' σ' fn.results.toList = some v ∧ R v σ') → LeavesInM (Fr none) 0 P fn a'.tmps (fun e w' => ∃ C' σ' v c, C'.w = w' ∧ e = .returned c ∧ Ext' C C' ∧ StRel C' σ' ∧ VRel C' v c ∧ R v σ') a'.defers .returning C'.w := by
    rintro ⟨v, hv, hR⟩
    rw [x5, List.append_nil]
    refine leaves_ok (fun C'' y1 y2 y3 => ?_) Ds C' x1 x2 x3 xm
    obtain ⟨c, h1, h2⟩ := vres_ok hτ y2 y3 hv
    exact ⟨c, h1, C'', σ', v, c, rfl, rfl, y1, y2, h2, hR⟩
  cases e with
  | normal => exact fin x6
  | ret => exact fin x6
  | exit id => exact x6.elim
  | goto id => exact x6.elim
  | panic ch => exact x6.elim
  | outgrown => exact x6.elim

/-- What is known of the others stays. -/
def St.Keeps (σ : St) (xs : List Nat) (σ' : St) : Prop := σ.n ≤ σ'.n ∧ ∀ o, o < σ.n → o ∉ xs → σ'.h o = σ.h o
theorem St.Keeps.at {σ σ' : St} {xs : List Nat} (h : σ.Keeps xs σ') {o : Nat} {x : Option Ob} (hx : σ.h o = x) (ho : o < σ.n) (hn : o ∉ xs) : σ'.h o = x := (h.2 o ho hn).trans hx
theorem zcall_free {ref : Bool} {F : FuncId} {h : Nat} {σ : St} {us : List V} {b : Bool} {vals : List V} {K : V → St → Prop} {d : Dep K} {r : V} (spec : VPure P F us r) (hb : b = true → r.free = true) (k : K (vrecv σ h r).1 (vrecv σ h r).2) :
    zcall P ref F h σ (some (us, b)) vals K d := zcall_pure spec hb k
theorem zcall_r {F : FuncId} {h : Nat} {σ : St} {a : Option (List V × Bool)} {vals : List V} {K : V → St → Prop} {d : Dep K} {R : V → St → Prop} (spec : VRef P F vals σ R) (k : ∀ v σ', R v σ' → K v σ') : zcall P true F h σ a vals K d := zcall_ref spec k
end
end Go.Vx
