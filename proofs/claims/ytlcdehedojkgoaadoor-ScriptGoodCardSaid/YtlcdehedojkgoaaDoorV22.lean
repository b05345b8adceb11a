/- Code carried out with fuel: for calls at known values, which the kernel carries out by itself. -/
import Derived.Test.YtlcdehedojkgoaaDoorV21
namespace Go.Vx
open Go.RowKit Go.Fl
set_option linter.unusedVariables false

def iterF (step : (Nat → V) → St → (Exit → (Nat → V) → St → Prop) → Prop) (Q : Exit → (Nat → V) → St → Prop) : Nat → (Nat → V) → St → Prop
  | 0, _, _ => False
  | n + 1, fr, σ => step fr σ fun e fr σ => match e with
    | .normal => iterF step Q n fr σ
    | e => Q e fr σ

def vwpF (P : Program) (τ : TypeId → Option TyD) (hint : Nat → Nat) (nt n : Nat) : Code → (Nat → V) → St → (Exit → (Nat → V) → St → Prop) → Prop
  | .skip, fr, σ, Q => Q .normal fr σ
  | .region _ ops draw, fr, σ, Q => vops P τ hint nt ops (!draw) ops.toList fr σ (if draw = true then lateQ τ hint ops.toList (Q .normal) else Q .normal)
  | .seq x y, fr, σ, Q => vwpF P τ hint nt n x fr σ fun e fr σ => match e with
    | .normal => vwpF P τ hint nt n y fr σ Q
    | e => Q e fr σ
  | .cond c x y, fr, σ, Q => match veval fr c with
    | .b t => if t = true then vwpF P τ hint nt n x fr σ Q else vwpF P τ hint nt n y fr σ Q
    | _ => False
  | .block id x, fr, σ, Q => vwpF P τ hint nt n x fr σ fun e fr σ => match e with
    | .exit id' => if id' = id then Q .normal fr σ else Q (.exit id') fr σ
    | e => Q e fr σ
  | .loop x, fr, σ, Q => iterF (fun fr σ K => vwpF P τ hint nt n x fr σ K) Q n fr σ
  | .exit id, fr, σ, Q => Q (.exit id) fr σ
  | .ret, fr, σ, Q => Q .ret fr σ
  | _, _, _, _ => False

theorem vwpF_ok {P : Program} {τ : TypeId → Option TyD} {hint : Nat → Nat} {nt n : Nat} : ∀ (c : Code) (fr : Nat → V) (σ : St) (Q : Exit → (Nat → V) → St → Prop), vwpF P τ hint nt n c fr σ Q → vwp P τ hint nt c fr σ Q := by
  intro c
  induction c with
  | skip => exact fun fr σ Q h => h
  | exit id => exact fun fr σ Q h => h
  | ret => exact fun fr σ Q h => h
  | region id ops draw => exact fun fr σ Q h => h
  | seq x y ihx ihy =>
    intro fr σ Q h
    refine vwp_mono ?_ x fr σ (ihx fr σ _ h)
    intro e fr σ h
    cases e with
    | normal => exact ihy fr σ Q h
    | _ => exact h
  | cond c x y ihx ihy =>
    intro fr σ Q h
    simp only [vwpF] at h
    simp only [vwp]
    generalize veval fr c = v at h ⊢
    cases v <;> first | exact h.elim | skip
    rename_i t
    cases t
    · exact ihy fr σ Q (by simpa using h)
    · exact ihx fr σ Q (by simpa using h)
  | block id x ih =>
    intro fr σ Q h
    exact vwp_mono (fun e fr σ h => h) x fr σ (ih fr σ _ h)
  | loop x ih =>
    intro fr σ Q h
    refine ⟨fun m fr σ => iterF (fun fr σ K => vwpF P τ hint nt n x fr σ K) Q m fr σ, ⟨n, h⟩, fun m fr σ hI => ?_⟩
    cases m with
    | zero => exact hI.elim
    | succ k =>
      refine vwp_mono ?_ x fr σ (ih fr σ _ hI)
      intro e fr σ h
      cases e with
      | normal => exact ⟨k, Nat.lt_succ_self k, h⟩
      | _ => exact h
  | _ => exact fun fr σ Q h => h.elim

/-- A function at known values, by the kernel. -/
theorem pure_by_run {P : Program} {τ : TypeId → Option TyD} (hτ : TyOk P τ) (hm : P.follows .mixedOrders = true) {f : FuncId} {fn : Func} {c : Code} (hf : P.funcs[f]? = some fn) (hb : fn.body = some c) (hname : (fn.name == "runtime.NumGoroutine") = false) (hint : Nat → Nat) (hok : okCode hint true c = true) (n : Nat) {args : List V} {r : V}
    (h : vwpF P τ hint fn.ntmps n c (initFr args) ⟨fun _ => none, 0⟩ (vret τ fn.results.toList r) = (∃ r', (some r : Option V) = some r' ∧ Vle r' r)) : VPure P f args r :=
  pure_of_body hτ hm hf hb hname hint hok (vwpF_ok c _ _ _ (Eq.mpr h ⟨_, rfl, .refl _⟩))
end Go.Vx
