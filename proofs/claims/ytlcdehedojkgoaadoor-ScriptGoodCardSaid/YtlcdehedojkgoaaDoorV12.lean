/- Calls, regions of operations in order and in whatever order, and code: what they do to values without memory. -/
import Derived.Test.YtlcdehedojkgoaaDoorV11
import Derived.OrdersIn
namespace Go.Vx
open Go.RowKit Go.Fl
set_option linter.unusedVariables false
set_option linter.unusedSimpArgs false

/-- What a call hands back. -/
def RetRel (w w' : World) (S : Addr → Prop) (r : V) (c : Value) : Prop :=
  match r with
  | .sl sz es (.own e) => (es = [] ∧ ∃ a, c = .slice a 0 0) ∨
      ∃ a cap xs, c = .slice a es.length cap ∧ Own w' w.heap.size e sz a es.length cap xs ∧ PRel w' (fun p => S p ∧ ∀ x, a = some x → p.block = x.block → p.off < es.length * sz) (.sl sz es .no) c
  | r => PRel w' S r c

/-- Values that lie alike: a slice of nothing has no size; that there is no room may be forgotten. -/
inductive Veq1 : V → V → Prop
  | refl (v : V) : Veq1 v v
  | no (sz : Nat) (es : List V) (g : Gr) : Veq1 (.sl sz es g) (.sl sz es .no)
  | nil (z z' : Nat) (g : Gr) : Veq1 (.sl z [] g) (.sl z' [] .no)
inductive VeqL : List V → List V → Prop
  | nil : VeqL [] []
  | cons {v v' : V} {r r' : List V} (h : Veq1 v v') (t : VeqL r r') : VeqL (v :: r) (v' :: r')
inductive Veq0 : V → V → Prop
  | one {v v' : V} (h : Veq1 v v') : Veq0 v v'
  | agg {cs ds : List V} (h : VeqL cs ds) : Veq0 (.agg cs) (.agg ds)
  | fn {f : FuncId} {cs ds : List V} (h : VeqL cs ds) : Veq0 (.fn f cs) (.fn f ds)
inductive VeqT : List V → List V → Prop
  | nil : VeqT [] []
  | cons {v v' : V} {r r' : List V} (h : Veq0 v v') (t : VeqT r r') : VeqT (v :: r) (v' :: r')
/-- What may be said of what comes back in place of what is known. -/
inductive Vle : V → V → Prop
  | of {v v' : V} (h : Veq0 v v') : Vle v v'
  | tup {cs ds : List V} (h : VeqT cs ds) : Vle (.tup cs) (.tup ds)
  | own (z sz : Nat) (e : TypeId) : Vle (.sl z [] .clip) (.sl sz [] (.own e))
theorem Veq0.refl (v : V) : Veq0 v v := .one (.refl v)
theorem Vle.refl (v : V) : Vle v v := .of (.refl v)
theorem Vle.of_eq {v v' : V} (h : v = v') : Vle v v' := h ▸ .refl v
theorem Vle_self (v : V) : Vle v v = True := eq_true (.refl v)
theorem VeqL.refl : ∀ l : List V, VeqL l l
  | [] => .nil
  | v :: r => .cons (.refl v) (VeqL.refl r)

theorem Veq1.ok {w : World} {S : Addr → Prop} {v v' : V} {c : Value} (h : PRel w S v c) (e : Veq1 v v') : PRel w S v' c ∧ (v.one = true → v'.one = true) := by
  cases e with
  | refl => exact ⟨h, id⟩
  | no sz es g => exact ⟨h.noclip, fun _ => rfl⟩
  | nil z z' g =>
    refine ⟨?_, fun _ => rfl⟩
    cases h with
    | sl _ _ _ a len cap cv hlen hle hmax hnul hg hsz hcell hrel =>
      exact .sl z' [] .no a len cap (fun _ => default) hlen hle hmax hnul (.inl rfl) (fun j v h => by simp at h) (fun x j v k u _ h => by simp at h) (fun j v k u h => by simp at h)
theorem VeqL.ok {w : World} {S : Addr → Prop} : ∀ {vs vs' : List V}, VeqL vs vs' → vs'.length = vs.length ∧ (vs.all V.one = true → vs'.all V.one = true) ∧ ∀ (j : Nat) u, vs'[j]? = some u → ∃ v, vs[j]? = some v ∧ ∀ c, PRel w S v c → PRel w S u c
  | _, _, .nil => ⟨rfl, id, fun j u h => by simp at h⟩
  | _, _, .cons (v := v) (v' := v') h t => by
    obtain ⟨a1, a2, a3⟩ := t.ok (w := w) (S := S)
    refine ⟨by simp [a1], fun hh => ?_, fun j u hu => ?_⟩
    · simp only [List.all_cons, Bool.and_eq_true] at hh ⊢
      refine ⟨?_, a2 hh.2⟩
      cases h with
      | refl => exact hh.1
      | no => rfl
      | nil => rfl
    · cases j with
      | zero => simp only [List.getElem?_cons_zero, Option.some.injEq] at hu; subst hu; exact ⟨v, rfl, fun c hc => (h.ok hc).1⟩
      | succ j => exact a3 j u (by simpa using hu)
theorem Veq0.ok {w : World} {S : Addr → Prop} {v v' : V} {c : Value} (h : PRel w S v c) (e : Veq0 v v') : PRel w S v' c := by
  cases e with
  | one e => exact (e.ok h).1
  | agg e => cases h with
    | agg cs ds h1 hl hr =>
      obtain ⟨a1, a2, a3⟩ := e.ok (w := w) (S := S)
      exact .agg _ ds (a2 h1) (by omega) fun j u c hu hc => by
        obtain ⟨v, hv, hk⟩ := a3 j u hu
        exact hk c (hr j v c hv hc)
  | fn e => cases h with
    | fn _ _ ds hl hr =>
      obtain ⟨a1, a2, a3⟩ := e.ok (w := w) (S := S)
      exact .fn _ _ ds (by omega) fun j u c hu hc => by
        obtain ⟨v, hv, hk⟩ := a3 j u hu
        exact hk c (hr j v c hv hc)
theorem VeqT.ok {w : World} {S : Addr → Prop} : ∀ {vs vs' : List V}, VeqT vs vs' → vs'.length = vs.length ∧ ∀ (j : Nat) u, vs'[j]? = some u → ∃ v, vs[j]? = some v ∧ ∀ c, PRel w S v c → PRel w S u c
  | _, _, .nil => ⟨rfl, fun j u h => by simp at h⟩
  | _, _, .cons (v := v) h t => by
    obtain ⟨a1, a3⟩ := t.ok (w := w) (S := S)
    refine ⟨by simp [a1], fun j u hu => ?_⟩
    cases j with
    | zero => simp only [List.getElem?_cons_zero, Option.some.injEq] at hu; subst hu; exact ⟨v, rfl, fun c hc => h.ok hc⟩
    | succ j => exact a3 j u (by simpa using hu)
theorem VeqT.refl : ∀ l : List V, VeqT l l
  | [] => .nil
  | v :: r => .cons (.refl v) (VeqT.refl r)


theorem RetRel.no {w w' : World} {S : Addr → Prop} {sz : Nat} {es : List V} {g : Gr} {c : Value} (h : RetRel w w' S (.sl sz es g) c) : PRel w' S (.sl sz es .no) c := by
  cases g with
  | own e =>
    rcases h with ⟨rfl, a, rfl⟩ | ⟨a, cap, xs, _, _, hp⟩
    · exact .sl sz [] .no a 0 0 (fun _ => default) rfl (Nat.le_refl _) (Nat.zero_le _) (fun _ => rfl) (.inl rfl) (fun j v h => by simp at h) (fun x j v k u _ h => by simp at h) (fun j v k u h => by simp at h)
    · exact hp.mono fun p x h hc => ⟨h.1, hc⟩
  | no => exact h
  | clip => exact PRel.noclip (g := .clip) h
  | tok t => exact PRel.noclip (g := .tok t) h

theorem RetRel.le {w w' : World} {S : Addr → Prop} {r r' : V} {c : Value} (h : RetRel w w' S r c) (e : Vle r r') : RetRel w w' S r' c := by
  have nn : ∀ {v : V}, PRel w' S v c → (∀ sz es e, v ≠ .sl sz es (.own e)) → RetRel w w' S v c := fun {v} hp hn => by
    unfold RetRel
    split
    · exact absurd rfl (hn _ _ _)
    · exact hp
  cases e with
  | of e =>
    cases e with
    | one e => cases e with
      | refl => exact h
      | no sz es g => exact nn h.no (by simp)
      | nil z z' g => exact nn ((Veq1.nil z z' .no).ok h.no).1 (by simp)
    | agg e => exact nn (Veq0.ok (v := .agg _) h (.agg e)) (by simp)
    | fn e => exact nn (Veq0.ok (v := .fn _ _) h (.fn e)) (by simp)
  | tup e => 
    refine nn ?_ (by simp)
    have h' : PRel w' S (.tup _) c := h
    cases h' with
    | tup cs ds hl hr =>
      obtain ⟨a1, a3⟩ := e.ok (w := w') (S := S)
      exact .tup _ ds (by omega) fun j u c hu hc => by
        obtain ⟨v, hv, hk⟩ := a3 j u hu
        exact hk c (hr j v c hv hc)
  | own z sz e =>
    have h' : PRel w' S (.sl z [] .clip) c := h
    cases h' with
    | sl _ _ _ a len cap cv hlen hle hmax hnul hg hsz hcell hrel =>
      left
      rcases hg with hg | ⟨_, hg⟩
      · cases hg
      · subst hg
        simp only [List.length_nil] at hlen
        subst hlen
        exact ⟨rfl, a, rfl⟩

def Enters (P : Program) (f : FuncId) : Prop := ∀ args W, (callFunc f args).run P W = .ok (.enter f args) W

theorem enters_of {P : Program} {f : FuncId} {fn : Func} (h1 : P.funcs[f]? = some fn) (h2 : (fn.name == "runtime.NumGoroutine") = false) (h3 : fn.body.isNone = false) : Enters P f := fun args W => by
  have h2' : ¬ fn.name = "runtime.NumGoroutine" := by simpa using h2
  have h3' : ¬ fn.body = none := by intro h; rw [h] at h3; cases h3
  simp [callFunc, h1, h2', h3']

/-- The package variables hold what they are known to. -/
def GOk (w : World) (S : Addr → Prop) : Prop := ∀ g cs, gl g = some cs → PRel w S (.rp cs) (.pointer (some ⟨g, 0, none⟩))
theorem StRel.gok {C : Cx} {σ : St} (h : StRel C σ) : GOk C.w C.S := fun g cs hg => by
  have := h.glob g cs hg
  generalize hv : V.rp cs = v at this
  cases this <;> first | (cases hv; done) | skip
  subst hv
  assumption
theorem GOk.mono {w w' : World} {S S' : Addr → Prop} (h : GOk w S) (hs : ∀ p x, S p → w.cell? p = some x → S' p ∧ w'.cell? p = some x) : GOk w' S' := fun g cs hg => (h g cs hg).mono hs
/-- A function that only computes: at these arguments it returns this value, and turns nothing that was there. -/
def VPure (P : Program) (f : FuncId) (args : List V) (r : V) : Prop :=
  Enters P f ∧ ∀ (w : World) (S : Addr → Prop) (cargs : Array Value), (∀ p : Addr, w.heap.size ≤ p.block → S p) → GOk w S → args.length = cargs.size → (∀ (j : Nat) v c, args[j]? = some v → cargs[j]? = some c → PRel w S v c) →
    Calls P f cargs w fun e w' => ∃ c, e = .returned c ∧ Below w.heap.size w w' ∧ RetRel w w' S r c

/-- At arguments that lie alike, and with less said of what comes back. -/
theorem VPure.le {P : Program} {f : FuncId} {args args' : List V} {r r' : V} (h : VPure P f args r) (ea : VeqT args' args) (er : Vle r r') : VPure P f args' r' := by
  refine ⟨h.1, fun w S cargs hS hG hl hr => ?_⟩
  obtain ⟨a1, a3⟩ := ea.ok (w := w) (S := S)
  refine (h.2 w S cargs hS hG (by omega) fun j u c hu hc => ?_).mono ?_
  · obtain ⟨v, hv, hk⟩ := a3 j u hu
    exact hk c (hr j v c hv hc)
  · rintro e w' ⟨c, h1, h2, h3⟩
    exact ⟨c, h1, h2, h3.le er⟩
theorem VPure.args {P : Program} {f : FuncId} {args args' : List V} {r : V} (h : VPure P f args r) (ea : VeqT args' args) : VPure P f args' r := h.le ea (.refl r)

/-- How long a slice can be at all. -/
def VLen : V → Prop
  | .sl _ es _ => es.length ≤ 9223372036854775807
  | .agg cs => ∀ c ∈ cs, match c with
    | .sl _ es _ => es.length ≤ 9223372036854775807
    | _ => True
  | _ => True
theorem PRel.vlen {w : World} {S : Addr → Prop} {v : V} {c : Value} (h : PRel w S v c) : VLen v := by
  cases h with
  | sl _ _ _ _ _ _ _ hlen hle hmax => 
    have : maxLen = 9223372036854775807 := by decide
    simp only [VLen]; omega
  | agg cs ds h1 hl hr =>
    intro v hv
    obtain ⟨j, hj, rfl⟩ := List.getElem_of_mem hv
    have := hr j cs[j] ds[j] (List.getElem?_eq_getElem hj) (Array.getElem?_eq_getElem (by omega))
    split
    · rename_i sz es g hq
      rw [hq] at this
      generalize ds[j] = dj at this
      cases this with
      | sl _ _ _ _ _ _ _ hlen hle hmax =>
        have : maxLen = 9223372036854775807 := by decide
        omega
    · trivial
  | _ => simp [VLen]
/-- A function may count on it. -/
theorem VPure.lens {P : Program} {f : FuncId} {args : List V} {r : V} (he : Enters P f) (h : (∀ v ∈ args, VLen v) → VPure P f args r) : VPure P f args r := by
  refine ⟨he, fun w S cargs hS hG hl hr => (h ?_).2 w S cargs hS hG hl hr⟩
  intro v hv
  obtain ⟨j, hj, rfl⟩ := List.getElem_of_mem hv
  exact (hr j args[j] cargs[j] (List.getElem?_eq_getElem hj) (Array.getElem?_eq_getElem (by omega))).vlen

def flat1 : V → Bool
  | .b _ => true
  | .i _ _ => true
  | .s _ => true
  | .nilp => true
  | .nilif => true
  | .iface _ (.i _ _) => true
  | _ => false
def flatL : List V → Bool
  | [] => true
  | v :: r => flat1 v && flatL r
def flat0 : V → Bool
  | .agg cs => flatL cs
  | v => flat1 v
def flatTL : List V → Bool
  | [] => true
  | v :: r => flat0 v && flatTL r
/-- No memory in it. -/
def V.flat : V → Bool
  | .tup cs => flatTL cs
  | v => flat0 v

/-- An argument as a value of its own; an object as what it holds just now (then what comes back may hold no memory). -/
def varg1 (σ : St) (v : V) : Option (V × Bool) :=
  match v with
  | .osl o off len _ => match σ.h o with
    | some (.cells cs) => if off + len ≤ cs.length then (stripL ((cs.drop off).take len)).map fun ys => (.sl 1 ys .no, true) else none
    | _ => none
  | .ptr o off => match σ.h o with
    | some (.cells cs) => (stripL (cs.drop off)).map fun ys => (.rp ys, true)
    | _ => none
  | v => (strip0 v).map fun u => (u, false)
def vargs1 (σ : St) : List V → Option (List V × Bool)
  | [] => some ([], false)
  | v :: r => match varg1 σ v, vargs1 σ r with
    | some (u, b), some (us, c) => some (u :: us, b || c)
    | _, _ => none
def varg (σ : St) (v : V) : Option (V × Bool) :=
  match v with
  | .fn f caps => (vargs1 σ caps).map fun p => (.fn f p.1, p.2)
  | v => varg1 σ v
def vargs (σ : St) : List V → Option (List V × Bool)
  | [] => some ([], false)
  | v :: r => match varg σ v, vargs σ r with
    | some (u, b), some (us, c) => some (u :: us, b || c)
    | _, _ => none

/-- What is done with what comes back: 0: as it is; 1: a slice that may grow; 2: an object. -/
def vrecv (σ : St) (hint : Nat) (r : V) : V × St :=
  match r with
  | .sl sz es (.own e) =>
    if hint = 1 then (.sl sz es (.tok σ.n), ⟨upd σ.h σ.n (some (.tok e)), σ.n + 1⟩)
    else if hint = 2 ∧ flatL (es.flatMap V.cells) = true then (if es.isEmpty then (.sl sz [] .no, σ) else (.osl σ.n 0 es.length es.length, σ.new (es.flatMap V.cells)))
    else (.sl sz es .no, σ)
  | r => (r, σ)

/-- No memory in it but its own. -/
def V.free : V → Bool
  | .sl _ es (.own _) => flatL (es.flatMap V.cells)
  | v => v.flat

/-- A function that is handed objects: what it may leave. -/
def VRef (P : Program) (f : FuncId) (args : List V) (σ : St) (R : V → St → Prop) : Prop :=
  Enters P f ∧ ∀ (C : Cx) (cargs : Array Value), StRel C σ → args.length = cargs.size → (∀ (j : Nat) v c, args[j]? = some v → cargs[j]? = some c → VRel C v c) →
    Calls P f cargs C.w fun e w' => ∃ C' σ' v c, C'.w = w' ∧ e = .returned c ∧ Ext' C C' ∧ StRel C' σ' ∧ VRel C' v c ∧ R v σ'

section
variable {P : Program} {C : Cx} {σ : St} {τ : TypeId → Option TyD}

theorem flat1_mono {w w' : World} {S S' : Addr → Prop} {v : V} {c : Value} (h : PRel w S v c) (hf : flat1 v = true) : PRel w' S' v c := by
  cases h <;> first | exact .b _ | exact .i _ _ | exact .s _ | exact .nilp | exact .nilif | (simp [flat1] at hf; done) | skip
  rename_i t v c h
  cases h <;> first | (simp [flat1] at hf; done) | exact .iface _ _ _ (.i _ _)
theorem flatL_get : ∀ {cs : List V}, flatL cs = true → ∀ (j : Nat) v, cs[j]? = some v → flat1 v = true
  | [], _, j, v, h => by simp at h
  | u :: r, hf, j, v, h => by
    simp only [flatL, Bool.and_eq_true] at hf
    cases j with
    | zero => simp only [List.getElem?_cons_zero, Option.some.injEq] at h; subst h; exact hf.1
    | succ j => exact flatL_get hf.2 j v (by simpa using h)
theorem flat0_mono {w w' : World} {S S' : Addr → Prop} {v : V} {c : Value} (h : PRel w S v c) (hf : flat0 v = true) : PRel w' S' v c := by
  cases h with
  | agg cs ds h1 hl hr => exact .agg cs ds h1 hl fun j v c h2 h3 => flat1_mono (hr j v c h2 h3) (flatL_get hf j v h2)
  | tup => simp [flat0, flat1] at hf
  | sl => simp [flat0, flat1] at hf
  | rp => simp [flat0, flat1] at hf
  | fn => simp [flat0, flat1] at hf
  | b => exact .b _
  | i => exact .i _ _
  | s => exact .s _
  | nilp => exact .nilp
  | nilif => exact .nilif
  | yld => simp [flat0, flat1] at hf
  | iface t v c h => exact flat1_mono (.iface t v c h) hf
theorem flatTL_get : ∀ {cs : List V}, flatTL cs = true → ∀ (j : Nat) v, cs[j]? = some v → flat0 v = true
  | [], _, j, v, h => by simp at h
  | u :: r, hf, j, v, h => by
    simp only [flatTL, Bool.and_eq_true] at hf
    cases j with
    | zero => simp only [List.getElem?_cons_zero, Option.some.injEq] at h; subst h; exact hf.1
    | succ j => exact flatTL_get hf.2 j v (by simpa using h)
theorem flat_mono {w w' : World} {S S' : Addr → Prop} {v : V} {c : Value} (h : PRel w S v c) (hf : v.flat = true) : PRel w' S' v c := by
  cases h with
  | tup cs ds hl hr => exact .tup cs ds hl fun j v c h2 h3 => flat0_mono (hr j v c h2 h3) (flatTL_get hf j v h2)
  | agg cs ds h1 hl hr => exact flat0_mono (.agg cs ds h1 hl hr) hf
  | sl => simp [V.flat, flat0, flat1] at hf
  | rp => simp [V.flat, flat0, flat1] at hf
  | fn => simp [V.flat, flat0, flat1] at hf
  | b => exact .b _
  | i => exact .i _ _
  | s => exact .s _
  | nilp => exact .nilp
  | nilif => exact .nilif
  | yld => simp [V.flat, flat0, flat1] at hf
  | iface t v c h => exact flat0_mono (.iface t v c h) hf

/-- The places that a call finds still: also those of the objects of which it is told what they hold. -/
theorem varg1_ok (hσ : StRel C σ) {v u : V} {b : Bool} {c : Value} (hv : VRel C v c) (h : varg1 σ v = some (u, b)) : (b = false → PRel C.w C.S u c) ∧ PRel C.w (fun _ => True) u c := by
  unfold varg1 at h
  split at h
  · rename_i o off len cap
    split at h <;> first | (cases h; done) | skip
    rename_i cs hcs
    split at h <;> first | (cases h; done) | skip
    rename_i hle
    obtain ⟨ys, hys, he⟩ := Option.map_eq_some_iff.1 h
    simp only [Prod.mk.injEq] at he
    obtain ⟨rfl, rfl⟩ := he
    refine ⟨fun h => (by cases h), ?_⟩
    obtain ⟨g, cur, e, hg, hh, hl, hcell⟩ := hσ.cells hcs
    obtain ⟨x, cp, rfl, hm, hlc, hcp, hmax, hx⟩ := hv.inv_osl
    have hxg := hx g hg
    subst hxg
    obtain ⟨hl', hget⟩ := stripL_ok hys
    have hlen : ys.length = len := by rw [hl']; simp; omega
    have key : ∀ (j : Nat) u, ys[j]? = some u → ∃ c, cur[off + j]? = some c ∧ C.w.cell? ⟨g, off + j, none⟩ = some c ∧ PRel C.w C.S u c ∧ u.one = true := fun j u hu => by
      obtain ⟨v, hv, hs⟩ := hget j u hu
      rw [List.getElem?_take] at hv
      split at hv
      · rw [List.getElem?_drop] at hv
        obtain ⟨a1, c, a2, a3, a4, _⟩ := hcell _ v hv
        exact ⟨c, a2, a3, strip1_ok a4 hs⟩
      · cases hv
    refine .sl 1 ys .no _ len cp (fun q => (cur[off + q]?).getD default) hlen (by omega) hmax (fun h => by cases h) (.inl rfl) (fun j u hj => ?_) (fun y j u k q hy hj hk => ?_) (fun j u k q hj hk => ?_)
    · obtain ⟨_, _, _, _, a4⟩ := key j u hj
      rw [cells_one a4]; rfl
    · obtain ⟨c, a1, a2, a3, a4⟩ := key j u hj
      rw [cells_one a4] at hk
      simp only [Option.some.injEq] at hy
      subst hy
      cases k with
      | zero =>
        simp only [List.getElem?_cons_zero, Option.some.injEq] at hk
        subst hk
        exact ⟨a4, trivial, by rw [addr_add]; simp only [Nat.mul_one, Nat.add_zero]; rw [a2, a1]; rfl⟩
      | succ k => simp at hk
    · obtain ⟨c, a1, a2, a3, a4⟩ := key j u hj
      rw [cells_one a4] at hk
      cases k with
      | zero =>
        simp only [List.getElem?_cons_zero, Option.some.injEq] at hk
        subst hk
        simp only [Nat.mul_one, Nat.add_zero]
        rw [a1]
        exact a3.mono fun p x _ h => ⟨trivial, h⟩
      | succ k => simp at hk
  · rename_i o off
    split at h <;> first | (cases h; done) | skip
    rename_i cs hcs
    obtain ⟨ys, hys, he⟩ := Option.map_eq_some_iff.1 h
    simp only [Prod.mk.injEq] at he
    obtain ⟨rfl, rfl⟩ := he
    refine ⟨fun h => (by cases h), ?_⟩
    obtain ⟨g, cur, e, hg, hh, hl, hcell⟩ := hσ.cells hcs
    obtain ⟨x, rfl, hm, hx⟩ := hv.inv_ptr
    have hxg := hx g hg
    subst hxg
    obtain ⟨hl', hget⟩ := stripL_ok hys
    have key : ∀ (j : Nat) u, ys[j]? = some u → ∃ c, cur[off + j]? = some c ∧ C.w.cell? ⟨g, off + j, none⟩ = some c ∧ PRel C.w C.S u c ∧ u.one = true := fun j u hu => by
      obtain ⟨v, hv, hs⟩ := hget j u hu
      rw [List.getElem?_drop] at hv
      obtain ⟨a1, c, a2, a3, a4, _⟩ := hcell _ v hv
      exact ⟨c, a2, a3, strip1_ok a4 hs⟩
    refine .rp ys _ (fun k => (cur[off + k]?).getD default) (fun k u hk => ?_) (fun k u hk => ?_)
    · obtain ⟨c, a1, a2, a3, a4⟩ := key k u hk
      exact ⟨a4, trivial, by rw [addr_add, a2, a1]; rfl⟩
    · obtain ⟨c, a1, a2, a3, a4⟩ := key k u hk
      rw [a1]
      exact a3.mono fun p x _ h => ⟨trivial, h⟩
  · obtain ⟨u', hu, he⟩ := Option.map_eq_some_iff.1 h
    simp only [Prod.mk.injEq] at he
    obtain ⟨rfl, rfl⟩ := he
    have := strip0_ok hv hu
    exact ⟨fun _ => this, this.mono fun p x _ h => ⟨trivial, h⟩⟩

theorem vargs1_ok (hσ : StRel C σ) : ∀ {vs us : List V} {b : Bool} {cs : List Value}, vs.length = cs.length → (∀ (j : Nat) v c, vs[j]? = some v → cs[j]? = some c → VRel C v c) → vargs1 σ vs = some (us, b) →
    us.length = cs.length ∧ (b = false → ∀ (j : Nat) v c, us[j]? = some v → cs[j]? = some c → PRel C.w C.S v c) ∧ ∀ (j : Nat) v c, us[j]? = some v → cs[j]? = some c → PRel C.w (fun _ => True) v c
  | [], us, b, [], _, _, h => by
    simp only [vargs1, Option.some.injEq, Prod.mk.injEq] at h
    obtain ⟨rfl, rfl⟩ := h
    exact ⟨rfl, fun _ j v c h => by simp at h, fun j v c h => by simp at h⟩
  | v :: vs, us, b, c :: cs, hl, hr, h => by
    simp only [vargs1] at h
    split at h <;> first | (cases h; done) | skip
    rename_i u b1 us' b2 h1 h2
    simp only [Option.some.injEq, Prod.mk.injEq] at h
    obtain ⟨rfl, rfl⟩ := h
    obtain ⟨k1, k2⟩ := varg1_ok hσ (hr 0 v c rfl rfl) h1
    obtain ⟨m1, m2, m3⟩ := vargs1_ok hσ (by simpa using hl) (fun j v c hv hc => hr (j + 1) v c (by simpa using hv) (by simpa using hc)) h2
    refine ⟨by simp [m1], fun hb j w d hw hd => ?_, fun j w d hw hd => ?_⟩
    · simp only [Bool.or_eq_false_iff] at hb
      cases j with
      | zero => simp only [List.getElem?_cons_zero, Option.some.injEq] at hw hd; subst hw; subst hd; exact k1 hb.1
      | succ j => exact m2 hb.2 j w d (by simpa using hw) (by simpa using hd)
    · cases j with
      | zero => simp only [List.getElem?_cons_zero, Option.some.injEq] at hw hd; subst hw; subst hd; exact k2
      | succ j => exact m3 j w d (by simpa using hw) (by simpa using hd)

theorem varg_ok (hσ : StRel C σ) {v u : V} {b : Bool} {c : Value} (hv : VRel C v c) (h : varg σ v = some (u, b)) : (b = false → PRel C.w C.S u c) ∧ PRel C.w (fun _ => True) u c := by
  unfold varg at h
  split at h
  · rename_i f caps
    obtain ⟨p, hp, he⟩ := Option.map_eq_some_iff.1 h
    obtain ⟨us, b'⟩ := p
    simp only [Prod.mk.injEq] at he
    obtain ⟨rfl, rfl⟩ := he
    obtain ⟨ds, rfl, hl, hr⟩ := hv.inv_fn
    obtain ⟨m1, m2, m3⟩ := vargs1_ok hσ (cs := ds.toList) (by simpa using hl.symm) (fun j v c h1 h2 => hr j v c h1 ((Array.getElem?_toList).symm.trans h2)) hp
    exact ⟨fun hb => .fn f us ds (by simpa using m1.symm) fun j v c h1 h2 => m2 hb j v c h1 ((Array.getElem?_toList).trans h2), .fn f us ds (by simpa using m1.symm) fun j v c h1 h2 => m3 j v c h1 ((Array.getElem?_toList).trans h2)⟩
  · exact varg1_ok hσ hv h

theorem vargs_ok (hσ : StRel C σ) : ∀ {vs us : List V} {b : Bool} {cs : List Value}, vs.length = cs.length → (∀ (j : Nat) v c, vs[j]? = some v → cs[j]? = some c → VRel C v c) → vargs σ vs = some (us, b) →
    us.length = cs.length ∧ (b = false → ∀ (j : Nat) v c, us[j]? = some v → cs[j]? = some c → PRel C.w C.S v c) ∧ ∀ (j : Nat) v c, us[j]? = some v → cs[j]? = some c → PRel C.w (fun _ => True) v c
  | [], us, b, [], _, _, h => by
    simp only [vargs, Option.some.injEq, Prod.mk.injEq] at h
    obtain ⟨rfl, rfl⟩ := h
    exact ⟨rfl, fun _ j v c h => by simp at h, fun j v c h => by simp at h⟩
  | v :: vs, us, b, c :: cs, hl, hr, h => by
    simp only [vargs] at h
    split at h <;> first | (cases h; done) | skip
    rename_i u b1 us' b2 h1 h2
    simp only [Option.some.injEq, Prod.mk.injEq] at h
    obtain ⟨rfl, rfl⟩ := h
    obtain ⟨k1, k2⟩ := varg_ok hσ (hr 0 v c rfl rfl) h1
    obtain ⟨m1, m2, m3⟩ := vargs_ok hσ (by simpa using hl) (fun j v c hv hc => hr (j + 1) v c (by simpa using hv) (by simpa using hc)) h2
    refine ⟨by simp [m1], fun hb j w d hw hd => ?_, fun j w d hw hd => ?_⟩
    · simp only [Bool.or_eq_false_iff] at hb
      cases j with
      | zero => simp only [List.getElem?_cons_zero, Option.some.injEq] at hw hd; subst hw; subst hd; exact k1 hb.1
      | succ j => exact m2 hb.2 j w d (by simpa using hw) (by simpa using hd)
    · cases j with
      | zero => simp only [List.getElem?_cons_zero, Option.some.injEq] at hw hd; subst hw; subst hd; exact k2
      | succ j => exact m3 j w d (by simpa using hw) (by simpa using hd)

theorem free_ret {w w' : World} {S : Addr → Prop} (hS : ∀ p : Addr, w.heap.size ≤ p.block → S p) {r : V} {c : Value} (h : RetRel w w' (fun _ => True) r c) (hf : r.free = true) : RetRel w w' S r c := by
  unfold V.free at hf
  split at hf
  · rename_i sz es e
    rcases h with h | ⟨a, cap, xs, hc, ho, hp⟩
    · exact .inl h
    · refine .inr ⟨a, cap, xs, hc, ho, ?_⟩
      subst hc
      cases hp with
      | sl _ _ _ _ _ _ cv hlen hle hmax hnul hg hsz hcell hrel =>
        refine .sl sz es .no a es.length cap cv hlen hle hmax hnul hg hsz (fun x j v k u hx hj hk => ?_) (fun j v k u hj hk => ?_)
        · obtain ⟨h1, h2, h3⟩ := hcell x j v k u hx hj hk
          refine ⟨h1, ⟨hS _ ?_, h2.2⟩, h3⟩
          rw [add_block]
          have := World.ownsRow.lt ho x.block (by rw [hx]; simp [Value.ownBlock])
          exact this.1
        · refine flat1_mono (hrel j v k u hj hk) ?_
          have hm : u ∈ es.flatMap V.cells := List.mem_flatMap.2 ⟨v, List.mem_of_getElem? hj, List.mem_of_getElem? hk⟩
          obtain ⟨q, hq⟩ := List.getElem?_of_mem hm
          exact flatL_get hf q u hq
  · rename_i hne
    unfold RetRel at h ⊢
    split at h
    · exact absurd rfl (hne _ _ _)
    · exact flat_mono h hf

/-- Receiving what came back. -/
theorem vrecv_ok (hσ : StRel C σ) {w' : World} (hb : Below C.w.heap.size C.w w') {r : V} {c : Value} (hr : RetRel C.w w' C.S r c) (hint : Nat) :
    ∃ C', C'.w = w' ∧ Ext' C C' ∧ StRel C' (vrecv σ hint r).2 ∧ VRel C' (vrecv σ hint r).1 c := by
  obtain ⟨g1, g2⟩ := hσ.grow hb
  have plain : ∀ u, PRel w' C.S u c → ∃ C', C'.w = w' ∧ Ext' C C' ∧ StRel C' σ ∧ VRel C' u c := fun u hp => ⟨_, rfl, g1, g2, .pure _ _ hp⟩
  unfold RetRel at hr
  split at hr
  · rename_i sz es e
    have hno : PRel w' C.S (.sl sz es .no) c := by
      rcases hr with ⟨rfl, a, rfl⟩ | ⟨a, cap, xs, _, _, hp⟩
      · exact .sl sz [] .no a 0 0 (fun _ => default) rfl (Nat.le_refl _) (Nat.zero_le _) (fun _ => rfl) (.inl rfl) (fun j v h => by simp at h) (fun x j v k u _ h => by simp at h) (fun j v k u h => by simp at h)
      · exact hp.mono fun p x h hc => ⟨h.1, hc⟩
    simp only [vrecv]
    split
    · rcases hr with ⟨rfl, a, rfl⟩ | ⟨a, cap, xs, rfl, ho, hp⟩
      · obtain ⟨n1, n2⟩ := g2.newClip a e
        refine ⟨_, rfl, g1.trans n1, n2, .tok _ _ _ _ (hno.mono n1.cell) (by simp [upd]) (fun a' n' cap' e' z' h => by simp [upd] at h) (fun a' n' h => ?_)⟩
        simp only [upd_same, Ent.clip.injEq] at h
        obtain ⟨r1, r2⟩ := h
        rw [r1, r2]
      · have hB : ∀ x, a = some x → C.w.heap.size ≤ x.block := fun x hx => by
          have := World.ownsRow.lt ho x.block (by rw [hx]; simp [Value.ownBlock])
          exact this.1
        have hgr : C.w.grownBy w' none := ⟨hb.os, hb.tape, hb.output, hb.size, fun k hk _ => hb.block k hk⟩
        obtain ⟨n1, n2⟩ := hσ.newTok σ.n w' none a es.length cap e sz xs hgr (fun g hg => by rw [hσ.absent] at hg; cases hg) (fun b hb => by cases hb) (ho.base (Nat.zero_le _)) (fun x hx => .inl (hB x hx))
        have hupd : upd (upd σ.h σ.n none) σ.n (some (Ob.tok e)) = upd σ.h σ.n (some (.tok e)) := by
          funext j; simp only [upd]; split <;> rfl
        rw [hupd] at n2
        refine ⟨_, rfl, n1, n2, ?_⟩
        refine .tok _ _ _ _ (hp.mono fun p x hpx hc => ⟨?_, hc⟩) (by simp [upd]) (fun a' n' cap' e' z' h => ?_) (fun a' n' h => by simp [upd] at h)
        · refine Cx.S_of (C := C) rfl hpx.1 (fun o g hm => ?_) (fun u y n' cap' e' sz' hm hbl => ?_)
          · by_cases he : o = σ.n
            · simp [upd, he] at hm
            · replace hm := (upd_ne (kill C.m σ.n) (Ent.tok a es.length cap e sz) he).symm.trans hm
              rw [kill_ne he] at hm; exact .inl ⟨o, hm⟩
          · by_cases he : u = σ.n
            · simp only [upd, he, if_true, Ent.tok.injEq] at hm
              obtain ⟨r1, r2, r3, r4, r5⟩ := hm
              rw [← r2, ← r5]
              exact .inl (hpx.2 y r1 hbl)
            · replace hm := (upd_ne (kill C.m σ.n) (Ent.tok a es.length cap e sz) he).symm.trans hm
              rw [kill_ne he] at hm; exact .inr ⟨u, y, n', cap', e', sz', hm, rfl, Nat.le_refl _⟩
        · simp only [upd_same, Ent.tok.injEq] at h
          obtain ⟨r1, r2, r3, r4, r5⟩ := h
          rw [r1, r2, r3, r5]; exact ⟨rfl, rfl⟩
    · split
      · rename_i hfl
        split
        · rename_i hemp
          have : es = [] := by simpa using hemp
          subst this
          exact plain _ hno
        · rename_i hemp
          rcases hr with ⟨rfl, _⟩ | ⟨a, cap, xs, rfl, ho, hp⟩
          · simp at hemp
          · have hne : 0 < es.length := List.length_pos_iff.2 (by simpa using hemp)
            have hO := ho
            obtain ⟨hl, h⟩ := ho
            rcases h with ⟨hv, _⟩ | ⟨gb, c', cur, hv, hgb, hh, hn1, hm1, hcs, htk2⟩
            · simp only [Value.slice.injEq] at hv; omega
            · simp only [Value.slice.injEq] at hv
              obtain ⟨r1, _, r3⟩ := hv
              subst r1; subst r3
              obtain ⟨a2, cap2, xs2, e2, hr2, hF, _⟩ := Flat.of_rd hp
              simp only [Value.slice.injEq] at e2
              obtain ⟨s1, _, s3⟩ := e2
              subst s1; subst s3
              have hxs : ∀ (q : Nat) d, xs2[q]? = some d → cur[q]? = some d := fun q d hq => by
                have := hr2.cell _ rfl q d hq
                rw [addr_add, Nat.zero_add, cell_of_row w' gb q cur e (0, 0) hh] at this
                exact this
              obtain ⟨n1, n2⟩ := hσ.newObjAt w' gb hb hgb (es.flatMap V.cells) cur e hh (by rw [flat_len hF.cl, hcs]; exact Nat.mul_le_mul_right _ hn1) (fun q u hq => by
                obtain ⟨a1, dd, a2, a3⟩ := flat_cells hF q u hq
                exact ⟨a1, dd, hxs q dd a2, .pure _ _ (flat1_mono a3 (flatL_get hfl.2 q u hq)), a3.oneCell a1⟩)
              refine ⟨_, rfl, n1, n2, .osl _ _ _ _ _ _ (by simp [upd]) (Nat.le_refl _) hn1 hm1 (fun g hg => by simp [upd] at hg; rw [hg])⟩
      · exact plain _ hno
  · rename_i hnot
    have : vrecv σ hint r = (r, σ) := by
      unfold vrecv
      split
      · exact absurd rfl (hnot _ _ _)
      · rfl
    rw [this]
    exact plain _ hr
end
end Go.Vx
