/- Code, and functions: what they do to values without memory. -/
import Derived.Test.YtlcdehedojkgoaaDoorV14
import Derived.RangeFuncOwn
namespace Go.Vx
open Go.RowKit Go.Fl
set_option linter.unusedVariables false
set_option linter.unusedSimpArgs false

/-- A loop, measured by a number beside the state. -/
theorem wpIn_loopN {F : Fence} {n : Nat} {P : Program} {Q : Exit → Act → World → Prop} {a : Act} {w : World} {c : Code} (I : Nat → Act → World → Prop) (h₀ : ∃ m, I m a w)
    (round : ∀ m a w, I m a w → c.wpIn F n P (Exit.then (fun a' w' => ∃ m', m' < m ∧ I m' a' w') Q) a w) : (Code.loop c).wpIn F n P Q a w := by
  intro b k cs hro hb hr
  have key : ∀ j a w, I j a w →
      ∃ e a' w', Q e a' w' ∧ ArrivesIn (Machine.fenced P F) P (lone (b.atR a (.code c :: .inLoop c :: k)) cs w) b k cs e a' w' := by
    intro j
    induction j using Nat.strongRecOn with
    | _ j ih =>
      intro a w hI
      obtain ⟨e, a₁, w₁, hq, harr⟩ := round j a w hI b (.inLoop c :: k) cs hro hb hr
      cases e with
      | normal =>
        obtain ⟨m', hlt, hI₁⟩ := hq
        obtain ⟨e₂, a₂, w₂, hq₂, harr₂⟩ := ih m' hlt a₁ w₁ hI₁
        exact ⟨e₂, a₂, w₂, hq₂, .of_steps (StepsIn.trans harr (.one (fenced_calm hb hr rfl) stepR_inLoop)) harr₂⟩
      | exit id => exact ⟨_, a₁, w₁, hq, .pass (x := .inLoop c) rfl (fun _ _ => .inl (by simp)) harr⟩
      | goto l => exact ⟨_, a₁, w₁, hq, .pass (x := .inLoop c) rfl (fun _ _ => .inl (by simp)) harr⟩
      | ret => exact ⟨_, a₁, w₁, hq, .pass (x := .inLoop c) rfl (fun _ _ => .inl (by simp)) harr⟩
      | panic ch => exact ⟨_, a₁, w₁, hq, .pass (x := .inLoop c) rfl (fun _ _ => .inl (by simp)) harr⟩
      | outgrown => exact ⟨_, a₁, w₁, hq, .pass (x := .inLoop c) rfl (fun _ _ => .inl (by simp)) harr⟩
  obtain ⟨m, hm⟩ := h₀
  obtain ⟨e, a', w', hq, harr⟩ := key m a w hm
  exact ⟨e, a', w', hq, .of_steps (.one (fenced_calm hb hr rfl) stepR_loop) harr⟩

/-- All regions that draw their order may. -/
def okCode (hint : Nat → Nat) : Bool → Code → Bool
  | _, .region _ ops draw => !draw || okD hint ops
  | top, .seq x y => okCode hint top x && okCode hint top y
  | top, .cond _ x y => okCode hint top x && okCode hint top y
  | top, .block _ x => okCode hint top x
  | top, .loop x => okCode hint top x
  | top, .rangeFunc _ _ x y => top && okCode hint false x && okCode hint false y
  | _, _ => true

/-- A function that hands out rows of values, one after the other, to a function that it is given; it reads what stays and makes new blocks alone. T: the places that stay. -/
def VIter (P : Program) (F : FuncId) (caps : List V) (xs : List (List V)) : Prop :=
  Enters P F ∧ ∀ (w : World) (S : Addr → Prop) (ccaps : Array Value), GOk w S → caps.length = ccaps.size → (∀ (j : Nat) v c, caps[j]? = some v → ccaps[j]? = some c → PRel w S v c) →
    ∀ (l : Nat) (J : Nat → (Addr → Prop) → World → Prop) (Jx : (Addr → Prop) → World → Prop),
      (∀ k T A, J k T A → ∀ p : Addr, A.heap.size ≤ p.block → T p) →
      (∀ k T A B (vs : Array Value) x, xs[k]? = some x → J k T A → Below A.heap.size A B → x.length = vs.size → (∀ (j : Nat) v c, x[j]? = some v → vs[j]? = some c → PRel B T v c) →
        YieldAt (Fr none) 0 P l vs B fun e W' => ∃ T', (∀ p x, T p → B.cell? p = some x → T' p ∧ W'.cell? p = some x) ∧ (∀ p : Addr, W'.heap.size ≤ p.block → T' p) ∧ ((e = .returned (.bool true) ∧ J (k + 1) T' W') ∨ (e = .returned (.bool false) ∧ Jx T' W'))) →
      ∀ T0 W0, (∀ p x, S p → w.cell? p = some x → T0 p ∧ W0.cell? p = some x) → J 0 T0 W0 →
        CallsIn (Fr none) 0 P F (#[.func (.yield l) #[] #[]] ++ ccaps) W0 fun e W' => (∃ v, e = .returned v) ∧ ((∃ T A, J xs.length T A ∧ Below A.heap.size A W') ∨ ∃ T A, Jx T A ∧ Below A.heap.size A W')

def updL (fr : Nat → V) : List Nat → List V → (Nat → V)
  | p :: ps, v :: vs => updL (upd fr p v) ps vs
  | _, _ => fr

section
variable (P : Program) (τ : TypeId → Option TyD) (hint : Nat → Nat) (nt : Nat)

def vwp : Code → (Nat → V) → St → (Exit → (Nat → V) → St → Prop) → Prop
  | .skip, fr, σ, Q => Q .normal fr σ
  | .region _ ops draw, fr, σ, Q => vops P τ hint nt ops (!draw) ops.toList fr σ (if draw = true then lateQ τ hint ops.toList (Q .normal) else Q .normal)
  | .seq x y, fr, σ, Q => vwp x fr σ fun e fr σ => match e with
    | .normal => vwp y fr σ Q
    | e => Q e fr σ
  | .cond c x y, fr, σ, Q => match veval fr c with
    | .b t => if t = true then vwp x fr σ Q else vwp y fr σ Q
    | _ => False
  | .block id x, fr, σ, Q => vwp x fr σ fun e fr σ => match e with
    | .exit id' => if id' = id then Q .normal fr σ else Q (.exit id') fr σ
    | e => Q e fr σ
  | .loop x, fr, σ, Q => ∃ (I : Nat → (Nat → V) → St → Prop), (∃ m, I m fr σ) ∧ ∀ m fr σ, I m fr σ → vwp x fr σ fun e fr σ => match e with
    | .normal => ∃ m', m' < m ∧ I m' fr σ
    | e => Q e fr σ
  | .exit id, fr, σ, Q => Q (.exit id) fr σ
  | .ret, fr, σ, Q => Q .ret fr σ
  | .rangeFunc g ps assign body, fr, σ, Q => match veval fr g with
    | .fn F caps => match vargs1 σ caps with
      | some (us, false) => ∃ (xs : List (List V)) (I : Nat → St → Prop), VIter P F us xs ∧ ps.toList.all (· < nt) = true ∧ (∀ x ∈ xs, x.length = ps.size) ∧ I 0 σ ∧
          (∀ k x σ, xs[k]? = some x → I k σ → vwp assign (updL fr ps.toList x) σ fun e fr' σ' => match e with
            | .normal => vwp body fr' σ' fun e _ σ'' => match e with
              | .normal => I (k + 1) σ''
              | .ret => Q .ret fr σ''
              | .exit id => Q (.exit id) fr σ''
              | _ => False
            | _ => False) ∧
          ∀ σ, I xs.length σ → Q .normal fr σ
      | _ => False
    | _ => False
  | _, _, _, _ => False
end

section
variable {P : Program} {τ : TypeId → Option TyD} {hint : Nat → Nat} {nt : Nat} {ro : Option Nat}

/-! ### Marks: what a range over a function leaves to be done at the function's end -/
def mark1 (D : Nat) : Deferred := { target := .collected D, args := #[] }
def Marks (C : Cx) (lo : Nat) (Ds : List Nat) : Prop := Ds.Nodup ∧ ∀ D ∈ Ds, lo ≤ D ∧ C.w.heap[D]? = some (.deferred (some [])) ∧ ∀ o, (C.m o).blk ≠ some D
theorem Marks.nil (C : Cx) (lo : Nat) : Marks C lo [] := ⟨List.nodup_nil, fun D h => by cases h⟩
theorem Marks.ext {C C' : Cx} {lo : Nat} {Ds : List Nat} (h : Marks C lo Ds) (hx : Ext' C C') : Marks C' lo Ds :=
  ⟨h.1, fun D hD => by
    obtain ⟨h1, h2, h3⟩ := h.2 D hD
    have hlt := (Array.getElem?_eq_some_iff.1 h2).1
    refine ⟨h1, (hx.blk D hlt h3).trans h2, fun o ho => ?_⟩
    obtain ⟨o', ho'⟩ := hx.fresh D hlt ⟨o, ho⟩
    exact h3 o' ho'⟩
theorem Marks.append {C : Cx} {lo mid : Nat} {A B : List Nat} (ha : Marks C lo A) (hb : Marks C mid B) (hl : lo ≤ mid) (hlt : ∀ D ∈ A, D < mid) : Marks C lo (B ++ A) := by
  refine ⟨List.nodup_append.2 ⟨hb.1, ha.1, fun x hx y hy e => ?_⟩, fun D hD => ?_⟩
  · subst e
    have := hlt _ hy
    have := (hb.2 _ hx).1
    omega
  · rcases List.mem_append.1 hD with h | h
    · obtain ⟨h1, h2⟩ := hb.2 D h
      exact ⟨by omega, h2⟩
    · exact ha.2 D h
theorem Marks.lt {C : Cx} {lo : Nat} {A : List Nat} (h : Marks C lo A) : ∀ D ∈ A, D < C.w.heap.size := fun D hD => (Array.getElem?_eq_some_iff.1 (h.2 D hD).2.1).1

theorem cells_put {w : World} {l : Nat} {o o0 : Obj} (ho : w.heap[l]? = some o0) (hc : o0.isCells = false) {p : Addr} {x : Value} (h : w.cell? p = some x) : p.block ≠ l ∧ (w.putObj l o).cell? p = some x := by
  obtain ⟨o1, h1, h2⟩ := cells_of_cell h
  have hne : p.block ≠ l := by
    intro e
    rw [e, ho] at h1
    cases h1
    rw [hc] at h2; cases h2
  exact ⟨hne, (World.cell?_of_block (World.putObj_heap_other hne)).trans h⟩

/-- A block that is no entry's and holds no cells turns. -/
theorem StRel.putRec {C0 C : Cx} {σ : St} (hx : Ext' C0 C) (h : StRel C σ) {l : Nat} (o : Obj) (hl : C0.w.heap.size ≤ l) (hn : ∀ o, (C.m o).blk ≠ some l) {o0 : Obj} (ho : C.w.heap[l]? = some o0) (hc : o0.isCells = false) :
    Ext' C0 { C with w := C.w.putObj l o } ∧ StRel { C with w := C.w.putObj l o } σ ∧ (∀ fr a, FrRel C fr a → FrRel { C with w := C.w.putObj l o } fr a) ∧ ∀ lo Ds, Marks C lo Ds → l ∉ Ds → Marks { C with w := C.w.putObj l o } lo Ds := by
  have hcell : ∀ p x, C.S p → C.w.cell? p = some x → (Cx.S { C with w := C.w.putObj l o } p) ∧ (C.w.putObj l o).cell? p = some x := fun p x hp hx => ⟨hp, (cells_put ho hc hx).2⟩
  have hv : ∀ {v c}, VRel C v c → VRel { C with w := C.w.putObj l o } v c := fun h => h.mono0 hcell fun _ _ => .inl rfl
  have hoth : ∀ b, b ≠ l → (C.w.putObj l o).heap[b]? = C.w.heap[b]? := fun b hb => World.putObj_heap_other hb
  refine ⟨⟨⟨hx.os, hx.tape, hx.output, ?_, hx.E, fun b hb hnb => ?_, fun p x hp hcx => ?_, hx.ent⟩, hx.fresh⟩, ?_, fun fr a hf t => hv (hf t), fun lo Ds hm hnl => ⟨hm.1, fun D hD => ?_⟩⟩
  · show C0.w.heap.size ≤ (C.w.putObj l o).heap.size
    rw [World.putObj_size]; exact hx.size
  · exact (hoth b (by omega)).trans (hx.blk b hb hnb)
  · obtain ⟨h1, h2⟩ := hx.cell p x hp hcx
    exact ⟨h1, (cells_put ho hc h2).2⟩
  · refine ⟨fun p hp => h.new p (by simpa using hp), h.id, fun o1 cs hcs => ?_, fun t e ht => ?_, h.live, h.livet, h.inj, fun o1 g hg => by simpa using h.lt o1 g hg, h.own, fun g cs hgl => hv (h.glob g cs hgl)⟩
    · obtain ⟨g, hg, cur, e, r1, r2, r3⟩ := h.obj o1 cs hcs
      refine ⟨g, hg, cur, e, (hoth g fun e => hn o1 (by rw [hg, e]; rfl)).trans r1, r2, fun j v hj => ?_⟩
      obtain ⟨q1, c, q2, q3, q4⟩ := r3 j v hj
      exact ⟨q1, c, q2, hv q3, q4⟩
    · rcases h.tok t e ht with h' | ⟨a, n, cap, sz, xs, hm, hown⟩
      · exact .inl h'
      · exact .inr ⟨a, n, cap, sz, xs, hm, Own.block hown fun x hx => hoth _ fun e => hn t (by rw [hm, hx, ← e]; rfl)⟩
  · obtain ⟨h1, h2, h3⟩ := hm.2 D hD
    exact ⟨h1, (hoth D fun e => hnl (e ▸ hD)).trans h2, h3⟩

/-- What is known where code has ended. -/
def Post (nt : Nat) (C : Cx) (ds : List Deferred) (Q : Exit → (Nat → V) → St → Prop) : Exit → Act → World → Prop := fun e a' w' =>
  ∃ C' fr' σ' Ds, C'.w = w' ∧ Ext' C C' ∧ StRel C' σ' ∧ FrRel C' fr' a' ∧ nt ≤ a'.tmps.size ∧ a'.defers = Ds.map mark1 ++ ds ∧ Marks C' C.w.heap.size Ds ∧ Q e fr' σ'

theorem Post.here {C C' : Cx} {fr : Nat → V} {σ : St} {a : Act} {e : Exit} {Q : Exit → (Nat → V) → St → Prop} {ds : List Deferred} (hx : Ext' C C') (hσ : StRel C' σ) (hf : FrRel C' fr a) (hn : nt ≤ a.tmps.size) (hd : a.defers = ds) (h : Q e fr σ) : Post nt C ds Q e a C'.w :=
  ⟨C', fr, σ, [], rfl, hx, hσ, hf, hn, hd, .nil _ _, h⟩

theorem Post.from {C C1 : Cx} {ds ds1 : List Deferred} {Ds : List Nat} {Q Q' : Exit → (Nat → V) → St → Prop} {e e' : Exit} {a : Act} {w : World} (h : Post nt C1 ds1 Q e a w) (hx : Ext' C C1) (hd : ds1 = Ds.map mark1 ++ ds) (hm : Marks C1 C.w.heap.size Ds) (hq : ∀ fr σ, Q e fr σ → Q' e' fr σ) : Post nt C ds Q' e' a w := by
  obtain ⟨C', fr', σ', Ds', h1, h2, h3, h4, h5, h6, h7, h8⟩ := h
  refine ⟨C', fr', σ', Ds' ++ Ds, h1, hx.trans h2, h3, h4, h5, by rw [h6, hd]; simp, (hm.ext h2).append h7 hx.size hm.lt, hq _ _ h8⟩

theorem updL_ok {C : Cx} : ∀ (ps : List Nat) (x : List V) (vs : List Value) (fr : Nat → V) (tmps : Array Value), x.length = vs.length → (∀ p ∈ ps, p < tmps.size) → (∀ (j : Nat) v c, x[j]? = some v → vs[j]? = some c → VRel C v c) → (∀ t, VRel C (fr t) (tmps.getD t undef)) →
    (∀ t, VRel C (updL fr ps x t) (((ps.zip vs).foldl (fun t (q : Nat × Value) => t.setIfInBounds q.1 q.2) tmps).getD t undef)) ∧ ((ps.zip vs).foldl (fun t (q : Nat × Value) => t.setIfInBounds q.1 q.2) tmps).size = tmps.size
  | [], x, vs, fr, tmps, hl, hp, hr, hf => ⟨by simpa [updL] using hf, by simp⟩
  | p :: ps, [], [], fr, tmps, hl, hp, hr, hf => ⟨by simpa [updL] using hf, by simp⟩
  | p :: ps, v :: x, c :: vs, fr, tmps, hl, hp, hr, hf => by
    have h0 := hr 0 v c rfl rfl
    have hpt := hp p (by simp)
    obtain ⟨r1, r2⟩ := updL_ok ps x vs (upd fr p v) (tmps.setIfInBounds p c) (by simpa using hl) (fun q hq => by simpa using hp q (by simp [hq])) (fun j v c hv hc => hr (j + 1) v c (by simpa using hv) (by simpa using hc)) (fun t => by
      by_cases he : t = p
      · subst he
        rw [upd_same]
        simpa [Array.getD_eq_getD_getElem?, hpt] using h0
      · rw [upd_ne _ _ he]
        have := hf t
        simpa [Array.getD_eq_getD_getElem?, Array.getElem?_setIfInBounds_ne (Ne.symm he)] using this)
    simp only [updL, List.zip_cons_cons, List.foldl_cons]
    exact ⟨r1, by rw [r2]; simp⟩
  | p :: ps, [], c :: vs, fr, tmps, hl, hp, hr, hf => by simp at hl
  | p :: ps, v :: x, [], fr, tmps, hl, hp, hr, hf => by simp at hl

/-- What stands when a round may begin. -/
def Ready (C : Cx) (I : Nat → St → Prop) (l D : Nat) (rec : LoopState → Option Code → Loop) (k : Nat) (T : Addr → Prop) (A : World) : Prop :=
  ∃ C' σ', C'.w = A ∧ T = C'.S ∧ Ext' C C' ∧ StRel C' σ' ∧ I k σ' ∧ A.heap[l]? = some (.loop (rec .ready none)) ∧ (∀ o, (C'.m o).blk ≠ some l) ∧ Marks C' C.w.heap.size [D]

def Left (C : Cx) (Q : Exit → (Nat → V) → St → Prop) (fr : Nat → V) (l D : Nat) (rec : LoopState → Option Code → Loop) (T : Addr → Prop) (A : World) : Prop :=
  ∃ C' σ', C'.w = A ∧ T = C'.S ∧ Ext' C C' ∧ StRel C' σ' ∧ (∃ e c, ((e = .ret ∧ c = .ret) ∨ ∃ id, e = .exit id ∧ c = .exit id) ∧ Q e fr σ' ∧ A.heap[l]? = some (.loop (rec .done (some c)))) ∧ (∀ o, (C'.m o).blk ≠ some l) ∧ Marks C' C.w.heap.size [D]

theorem range_ok {g : Operand} {ps : Array Tmp} {assign body : Code} {fr : Nat → V} {σ : St} {Q : Exit → (Nat → V) → St → Prop} {C : Cx} {a : Act} (hσ : StRel C σ) (hf : FrRel C fr a) (hn : nt ≤ a.tmps.size)
    (ha : ∀ l fr σ Q (C : Cx) (a : Act), StRel C σ → FrRel C fr a → nt ≤ a.tmps.size → vwp P τ hint nt assign fr σ Q → assign.wpIn (Fr (some l)) 0 P (Post nt C a.defers Q) a C.w)
    (hb : ∀ l fr σ Q (C : Cx) (a : Act), StRel C σ → FrRel C fr a → nt ≤ a.tmps.size → vwp P τ hint nt body fr σ Q → body.wpIn (Fr (some l)) 0 P (Post nt C a.defers Q) a C.w)
    (h : vwp P τ hint nt (.rangeFunc g ps assign body) fr σ Q) : (Code.rangeFunc g ps assign body).wpIn (Fr none) 0 P (Post nt C a.defers Q) a C.w := by
  simp only [vwp] at h
  split at h <;> first | exact h.elim | skip
  rename_i F caps hg
  split at h <;> first | exact h.elim | skip
  rename_i us hus
  obtain ⟨xs, I, hseq, hps, hxl, hI0, hround, hend⟩ := h
  have hgr := veval_rel hσ hf g
  rw [hg] at hgr
  obtain ⟨ds, hge, hdl, hdr⟩ := hgr.inv_fn
  obtain ⟨m1, m2, -⟩ := vargs1_ok hσ (cs := ds.toList) (by simpa using hdl.symm) (fun j v c h1 h2 => hdr j v c h1 ((Array.getElem?_toList).symm.trans h2)) hus
  have m2 := m2 rfl
  have hpl : ∀ p ∈ ps.toList, p < a.tmps.size := fun p hp => by
    have := List.all_eq_true.1 hps p hp
    simp only [decide_eq_true_eq] at this
    exact Nat.lt_of_lt_of_le this hn
  refine wpIn_rangeFunc ?_
  intro fn hfn
  obtain ⟨rec, hrec⟩ : ∃ rec : LoopState → Option Code → Loop, rec = fun st pe => { state := st, pending := pe, fn, tmps := a.tmps, params := ps, assign, body, defers := C.w.heap.size } := ⟨_, rfl⟩
  obtain ⟨W1, hW1⟩ : ∃ W1, (C.w.alloc (.deferred (some []))).alloc (.loop (rec .ready none)) = W1 := ⟨_, rfl⟩
  have hL1 : W1.heap[C.w.heap.size + 1]? = some (.loop (rec .ready none)) := by
    rw [← hW1]; have := World.alloc_heap_new (C.w.alloc (.deferred (some []))) (.loop (rec .ready none)); rwa [World.size_alloc] at this
  have hK1 : W1.heap[C.w.heap.size]? = some (.deferred (some [])) := by
    rw [← hW1]; exact (Below.heap_alloc _ _ _ (by simp)).trans (World.alloc_heap_new C.w _)
  have hb1 : Below C.w.heap.size C.w W1 := by
    rw [← hW1]; exact ((Below.refl _ C.w).alloc (Nat.le_refl _) _).alloc (by simp) _
  obtain ⟨g1, g2⟩ := hσ.grow hb1
  have hnew : ∀ q, C.w.heap.size ≤ q → ∀ o, (C.m o).blk ≠ some q := fun q hq o ho => by
    have := hσ.lt o q ho
    omega
  -- the record turns
  have turn : ∀ (C' : Cx) (σ' : St) (o o0 : Obj), Ext' C C' → StRel C' σ' → (∀ o, (C'.m o).blk ≠ some (C.w.heap.size + 1)) → C'.w.heap[C.w.heap.size + 1]? = some o0 → o0.isCells = false → Marks C' C.w.heap.size [C.w.heap.size] →
      Ext' C { C' with w := C'.w.putObj (C.w.heap.size + 1) o } ∧ StRel { C' with w := C'.w.putObj (C.w.heap.size + 1) o } σ' ∧ (∀ fr a, FrRel C' fr a → FrRel { C' with w := C'.w.putObj (C.w.heap.size + 1) o } fr a) ∧ Marks { C' with w := C'.w.putObj (C.w.heap.size + 1) o } C.w.heap.size [C.w.heap.size] ∧ (C'.w.putObj (C.w.heap.size + 1) o).heap[C.w.heap.size + 1]? = some o := fun C' σ' o o0 h1 h2 h3 h4 h5 h6 => by
    obtain ⟨r1, r2, r3, r4⟩ := h2.putRec h1 o (by omega) h3 h4 h5
    exact ⟨r1, r2, r3, r4 _ _ h6 (by simp), World.putObj_heap_same (Array.getElem?_eq_some_iff.1 h4).1⟩
  have hJ0 : Ready C I (C.w.heap.size + 1) C.w.heap.size rec 0 (Cx.S { C with w := W1 }) W1 :=
    ⟨_, _, rfl, rfl, g1, g2, hI0, hL1, hnew _ (by omega), by simp, fun D hD => by
      rw [List.mem_singleton.1 hD]
      exact ⟨Nat.le_refl _, hK1, hnew _ (Nat.le_refl _)⟩⟩
  obtain ⟨hent, hseq⟩ := hseq
  have hent' : ∀ args w, (callFunc F args).run P w = .ok (.enter F args) w := hent
  refine ⟨C.w.heap.size + 1, [mark1 C.w.heap.size], W1, { target := .fn (.func F) ds, args := #[.func (.yield (C.w.heap.size + 1)) #[] #[]] }, W1, F, #[.func (.yield (C.w.heap.size + 1)) #[] #[]] ++ ds, W1, ?_, ?_, fun _ _ => trivial, ?_, fun h => (by cases h), ?_⟩
  · rw [← hW1, hrec]; exact run_enterLoop_outer _ _ _ _ _
  · simp only [resolve, hge]
    simp [go_sem]
  · simp [invoke, go_sem, hent']
  · refine (hseq C.w C.S ds hσ.gok (by simpa using m1) (fun j v c h1 h2 => m2 j v c h1 ((Array.getElem?_toList).trans h2)) (C.w.heap.size + 1) (Ready C I (C.w.heap.size + 1) C.w.heap.size rec) (Left C Q fr (C.w.heap.size + 1) C.w.heap.size rec) ?_ ?_ _ W1 (fun p x hp hx => g1.cell p x hp hx) hJ0).mono ?_
    · rintro k T A ⟨C', σ', rfl, rfl, h1, h2, _⟩ p hp
      exact h2.fresh hp
    · rintro k T A B vs x hx ⟨C', σ', rfl, rfl, h1, h2, h3, h4, h5, h6⟩ hbl hvl hvr
      obtain ⟨n1, n2⟩ := h2.grow hbl
      have e1 := h1.trans n1
      have hL : B.heap[C.w.heap.size + 1]? = some (.loop (rec .ready none)) := (hbl.block _ (Array.getElem?_eq_some_iff.1 h4).1).trans h4
      have hxm := hxl x (List.mem_of_getElem? hx)
      have hy := run_yield (P := P) (args := vs) hL (by rw [hrec]; simp only; omega)
      rw [hrec] at hy
      refine ⟨fn, _, assign, body, hy, roundIn_of_wpIn hfn ?_⟩
      have hval : ∀ (j : Nat) v c, x[j]? = some v → vs.toList[j]? = some c → VRel { C' with w := B } v c := fun j v c h7 h8 =>
        .pure _ _ (hvr j v c h7 ((Array.getElem?_toList).symm.trans h8))
      obtain ⟨u1, u2⟩ := updL_ok (C := { C' with w := B }) ps.toList x vs.toList fr a.tmps (by simpa using hvl) hpl hval (hf.mono e1.toExt)
      have hfold : (ps.zip vs).foldl (fun (t : Array Value) (p : Tmp × Value) => t.setIfInBounds p.1 p.2) a.tmps = (ps.toList.zip vs.toList).foldl (fun t (q : Nat × Value) => t.setIfInBounds q.1 q.2) a.tmps := by
        rw [← Array.foldl_toList, Array.toList_zip]
      have hfr0 : FrRel { C' with w := B } (updL fr ps.toList x) { tmps := (ps.zip vs).foldl (fun (t : Array Value) (p : Tmp × Value) => t.setIfInBounds p.1 p.2) a.tmps, defers := [] } := by
        rw [hfold]; exact u1
      have hn0 : nt ≤ ((ps.zip vs).foldl (fun (t : Array Value) (p : Tmp × Value) => t.setIfInBounds p.1 p.2) a.tmps).size := by rw [hfold, u2]; exact hn
      refine wpIn_mono (ha (C.w.heap.size + 1) _ _ _ { C' with w := B } _ n2 hfr0 hn0 (hround k x σ' hx h3)) ?_
      rintro e a1 w1 ⟨C3, fr3, σ3, Ds3, rfl, y1, y2, y3, y4, y5, y6, y7⟩
      cases e <;> first | exact y7.elim | skip
      have hbl3 : ∀ o, (C3.m o).blk ≠ some (C.w.heap.size + 1) := fun o ho => by
        obtain ⟨o', ho'⟩ := y1.fresh _ (Array.getElem?_eq_some_iff.1 hL).1 ⟨o, ho⟩
        exact h5 o' ho'
      have hL3 : C3.w.heap[C.w.heap.size + 1]? = some (.loop (rec .ready none)) := (y1.blk _ (Array.getElem?_eq_some_iff.1 hL).1 h5).trans hL
      obtain ⟨t1, t2, t3, t4, t5⟩ := turn C3 σ3 (.loop { rec .ready none with state := .busy }) _ (e1.trans y1) y2 hbl3 hL3 rfl ((h6.ext n1).ext y1)
      refine ⟨_, run_beginRound hL3 (by rw [hrec]), ?_⟩
      refine wpIn_mono (hb (C.w.heap.size + 1) _ _ _ { C3 with w := C3.w.putObj (C.w.heap.size + 1) (.loop { rec .ready none with state := .busy }) } _ t2 (t3 _ _ y3) y4 y7) ?_
      rintro e a2 w2 ⟨C5, fr5, σ5, Ds5, rfl, z1, z2, z3, z4, z5, z6, z7⟩
      have hbl5 : ∀ o, (C5.m o).blk ≠ some (C.w.heap.size + 1) := fun o ho => by
        obtain ⟨o', ho'⟩ := z1.fresh _ (Array.getElem?_eq_some_iff.1 t5).1 ⟨o, ho⟩
        exact hbl3 o' ho'
      have hL5 : C5.w.heap[C.w.heap.size + 1]? = some (.loop { rec .ready none with state := .busy }) := (z1.blk _ (Array.getElem?_eq_some_iff.1 t5).1 hbl3).trans t5
      have fin : ∀ (jump : Option Code), ∃ C6, Ext' C C6 ∧ (StRel C6 σ5 ∧ ∀ p x, Cx.S C' p → B.cell? p = some x → C6.S p ∧ C6.w.cell? p = some x) ∧ (Instr.endRound (C.w.heap.size + 1) jump).run P C5.w = .ok (.bool jump.isNone) C6.w ∧ (∀ o, (C6.m o).blk ≠ some (C.w.heap.size + 1)) ∧ C6.w.heap[C.w.heap.size + 1]? = some (.loop (rec (if jump.isNone then .ready else .done) jump)) ∧ Marks C6 C.w.heap.size [C.w.heap.size] := fun jump => by
        obtain ⟨q1, q2, q3, q4, q5⟩ := turn C5 σ5 (.loop (rec (if jump.isNone then .ready else .done) jump)) _ (t1.trans z1) z2 hbl5 hL5 rfl (t4.ext z1)
        have := run_endRound (P := P) jump hL5
        rw [hrec] at this
        refine ⟨_, q1, ⟨q2, fun p x hp hx => ?_⟩, by rw [hrec]; exact this, hbl5, q5, q4⟩
        obtain ⟨k1, k2⟩ := y1.cell p x hp hx
        obtain ⟨k3, k4⟩ := z1.cell p x k1 (cells_put hL3 rfl k2).2
        exact ⟨k3, (cells_put hL5 rfl k4).2⟩
      cases e with
      | normal =>
        obtain ⟨C6, q1, q2, q3, q4, q5, q6⟩ := fin none
        exact ⟨_, _, q3, C6.S, q2.2, fun p hp => q2.1.fresh hp, .inl ⟨rfl, C6, σ5, rfl, rfl, q1, q2.1, z7, q5, q4, q6⟩⟩
      | ret =>
        obtain ⟨C6, q1, q2, q3, q4, q5, q6⟩ := fin (some .ret)
        exact ⟨_, _, q3, C6.S, q2.2, fun p hp => q2.1.fresh hp, .inr ⟨rfl, C6, σ5, rfl, rfl, q1, q2.1, ⟨.ret, .ret, .inl ⟨rfl, rfl⟩, z7, q5⟩, q4, q6⟩⟩
      | exit id =>
        obtain ⟨C6, q1, q2, q3, q4, q5, q6⟩ := fin (some (.exit id))
        exact ⟨_, _, q3, C6.S, q2.2, fun p hp => q2.1.fresh hp, .inr ⟨rfl, C6, σ5, rfl, rfl, q1, q2.1, ⟨.exit id, .exit id, .inr ⟨id, rfl, rfl⟩, z7, q5⟩, q4, q6⟩⟩
      | goto t => exact z7.elim
      | panic ch => exact z7.elim
      | outgrown => exact z7.elim
    · -- behind the iterator
      have fin : ∀ (C' : Cx) (σ' : St) (W2 : World) (st : LoopState) (pe : Option Code) (e : Exit), st ≠ .busy → Ext' C C' → StRel C' σ' → Below C'.w.heap.size C'.w W2 → C'.w.heap[C.w.heap.size + 1]? = some (.loop (rec st pe)) → (∀ o, (C'.m o).blk ≠ some (C.w.heap.size + 1)) → Marks C' C.w.heap.size [C.w.heap.size] → Q e fr σ' →
          ∃ w4, (Instr.endLoop (C.w.heap.size + 1)).run P W2 = .ok pe w4 ∧ Post nt C a.defers Q e { a with defers := [mark1 C.w.heap.size] ++ a.defers } w4 := fun C' σ' W2 st pe e hst h1 h2 hbl h4 h5 h6 hQ => by
        obtain ⟨n1, n2⟩ := h2.grow hbl
        have hL : W2.heap[C.w.heap.size + 1]? = some (.loop (rec st pe)) := (hbl.block _ (Array.getElem?_eq_some_iff.1 h4).1).trans h4
        obtain ⟨q1, q2, q3, q4, q5⟩ := turn { C' with w := W2 } σ' (.loop { rec st pe with state := .exhausted }) _ (h1.trans n1) n2 h5 hL rfl (h6.ext n1)
        have hrun : (Instr.endLoop (C.w.heap.size + 1)).run P W2 = .ok pe (W2.putObj (C.w.heap.size + 1) (.loop { rec st pe with state := .exhausted })) := by
          have hrun := run_endLoop (P := P) hL (by rw [hrec]; exact hst)
          rw [hrec] at hrun ⊢
          exact hrun
        exact ⟨_, hrun, { C' with w := W2.putObj (C.w.heap.size + 1) (.loop { rec st pe with state := .exhausted }) }, fr, σ', [C.w.heap.size], rfl, q1, q2, fun t => (hf t).mono q1.toExt, hn, rfl, q4, hQ⟩
      rintro e W2 ⟨⟨v, rfl⟩, (⟨T, A, ⟨C', σ', rfl, rfl, h1, h2, h3, h4, h5, h6⟩, hbl⟩ | ⟨T, A, ⟨C', σ', rfl, rfl, h1, h2, ⟨e, c, hec, hQ, h4⟩, h5, h6⟩, hbl⟩)⟩
      · obtain ⟨w4, k1, k2⟩ := fin C' σ' W2 .ready none .normal (by simp) h1 h2 hbl h4 h5 h6 (hend σ' h3)
        exact ⟨none, w4, k1, k2⟩
      · obtain ⟨w4, k1, k2⟩ := fin C' σ' W2 .done (some c) e (by simp) h1 h2 hbl h4 h5 h6 hQ
        refine ⟨some c, w4, k1, ?_⟩
        rcases hec with ⟨rfl, rfl⟩ | ⟨id, rfl, rfl⟩
        · exact wpIn_ret k2
        · exact wpIn_exit k2

theorem vwp_ok (hτ : TyOk P τ) (hm : P.follows .mixedOrders = true) : ∀ (c : Code) (ro : Option Nat) (top : Bool) (_ : top = true → ro = none) (fr : Nat → V) (σ : St) (Q : Exit → (Nat → V) → St → Prop) (C : Cx) (a : Act), StRel C σ → FrRel C fr a → nt ≤ a.tmps.size → okCode hint top c = true → vwp P τ hint nt c fr σ Q →
    c.wpIn (Fr ro) 0 P (Post nt C a.defers Q) a C.w
  | .skip, ro, top, hro, fr, σ, Q, C, a, hσ, hf, hn, ho, h => wpIn_skip (.here (.refl _) hσ hf hn rfl h)
  | .exit id, ro, top, hro, fr, σ, Q, C, a, hσ, hf, hn, ho, h => wpIn_exit (.here (.refl _) hσ hf hn rfl h)
  | .ret, ro, top, hro, fr, σ, Q, C, a, hσ, hf, hn, ho, h => wpIn_ret (.here (.refl _) hσ hf hn rfl h)
  | .region id ops draw, ro, top, hro, fr, σ, Q, C, a, hσ, hf, hn, ho, h => by
    have h2 := h
    cases draw with
    | false =>
      refine wpIn_region ?_
      have := vops_ok (ro := ro) (Q := Post nt C a.defers Q) hτ ops.toList 0 fr C σ a rfl hσ hf hn h2 (fun C' fr' σ' a' x1 x2 x3 x4 x5 x6 => .here x1 x2 x3 x4 x5 x6)
      rw [List.range_eq_range']
      simpa using this
    | true =>
      refine wpIn_region_any hm ?_
      exact draw_ok hτ (by simpa [okCode] using ho) hσ hf hn h2 fun C' fr' σ' a' x1 x2 x3 x4 x5 x6 => .here x1 x2 x3 x4 x5 x6
  | .seq x y, ro, top, hro, fr, σ, Q, C, a, hσ, hf, hn, ho, h => by
    simp only [okCode, Bool.and_eq_true] at ho
    refine wpIn_seq (wpIn_mono (vwp_ok hτ hm x ro top hro fr σ _ C a hσ hf hn ho.1 h) ?_)
    rintro e a' w' hp
    cases e with
    | normal =>
      obtain ⟨C', fr', σ', Ds, rfl, x1, x2, x3, x4, x5, xm, x6⟩ := hp
      exact wpIn_mono (vwp_ok hτ hm y ro top hro fr' σ' Q C' a' x2 x3 x4 ho.2 x6) fun e a w hp => hp.from x1 x5 xm fun _ _ h => h
    | exit id => exact hp
    | goto id => exact hp
    | ret => exact hp
    | panic ch => exact hp
    | outgrown => exact hp
  | .cond c x y, ro, top, hro, fr, σ, Q, C, a, hσ, hf, hn, ho, h => by
    simp only [okCode, Bool.and_eq_true] at ho
    simp only [vwp] at h
    split at h <;> first | exact h.elim | skip
    rename_i t ht
    have hc := veval_rel hσ hf c
    rw [ht] at hc
    refine wpIn_cond hc.inv_b ?_
    cases t with
    | true => exact vwp_ok hτ hm x ro top hro fr σ Q C a hσ hf hn ho.1 (by simpa using h)
    | false => exact vwp_ok hτ hm y ro top hro fr σ Q C a hσ hf hn ho.2 (by simpa using h)
  | .block id x, ro, top, hro, fr, σ, Q, C, a, hσ, hf, hn, ho, h => by
    refine wpIn_block (wpIn_mono (vwp_ok hτ hm x ro top hro fr σ _ C a hσ hf hn (by simpa [okCode] using ho) h) ?_)
    rintro e a' w' hp
    cases e with
    | exit id' =>
      obtain ⟨C', fr', σ', Ds, rfl, x1, x2, x3, x4, x5, xm, x6⟩ := hp
      simp only [Exit.inBlock]
      split
      · rename_i he
        simp only [he, if_true] at x6
        exact ⟨C', fr', σ', Ds, rfl, x1, x2, x3, x4, x5, xm, x6⟩
      · rename_i he
        simp only [he, if_false] at x6
        exact ⟨C', fr', σ', Ds, rfl, x1, x2, x3, x4, x5, xm, x6⟩
    | normal => exact hp
    | goto id => exact hp
    | ret => exact hp
    | panic ch => exact hp
    | outgrown => exact hp
  | .loop x, ro, top, hro, fr, σ, Q, C, a, hσ, hf, hn, ho, h => by
    obtain ⟨I, ⟨m, hI⟩, hround⟩ := h
    refine wpIn_loopN (fun m a' w' => Post nt C a.defers (fun _ fr σ => I m fr σ) .normal a' w') ⟨m, .here (.refl _) hσ hf hn rfl hI⟩ ?_
    rintro m a' w' ⟨C', fr', σ', Ds, rfl, x1, x2, x3, x4, x5, xm, x6⟩
    refine wpIn_mono (vwp_ok hτ hm x ro top hro fr' σ' _ C' a' x2 x3 x4 (by simpa [okCode] using ho) (hround m fr' σ' x6)) ?_
    rintro e a'' w'' hp
    cases e with
    | normal =>
      obtain ⟨C'', fr'', σ'', Ds', rfl, y1, y2, y3, y4, y5, ym, m', hlt, hI'⟩ := hp
      exact ⟨m', hlt, Post.from (Q := fun _ fr σ => I m' fr σ) (e := .normal) ⟨C'', fr'', σ'', Ds', rfl, y1, y2, y3, y4, y5, ym, hI'⟩ x1 x5 xm fun _ _ h => h⟩
    | exit id => exact hp.from x1 x5 xm fun _ _ h => h
    | goto id => exact hp.from x1 x5 xm fun _ _ h => h
    | ret => exact hp.from x1 x5 xm fun _ _ h => h
    | panic ch => exact hp.from x1 x5 xm fun _ _ h => h
    | outgrown => exact hp.from x1 x5 xm fun _ _ h => h
  | .rangeFunc g ps x y, ro, top, hro, fr, σ, Q, C, a, hσ, hf, hn, ho, h => by
    simp only [okCode, Bool.and_eq_true] at ho
    rw [hro ho.1.1]
    exact range_ok hσ hf hn (fun l fr σ Q C a h1 h2 h3 h4 => vwp_ok hτ hm x (some l) false (fun h => (by cases h)) fr σ Q C a h1 h2 h3 ho.1.2 h4) (fun l fr σ Q C a h1 h2 h3 h4 => vwp_ok hτ hm y (some l) false (fun h => (by cases h)) fr σ Q C a h1 h2 h3 ho.2 h4) h
  | .scope _, _, _, _, _, _, _, _, _, _, _, _, _, h => h.elim
  | .label _, _, _, _, _, _, _, _, _, _, _, _, _, h => h.elim
  | .goto _, _, _, _, _, _, _, _, _, _, _, _, _, h => h.elim
  | .refuse _, _, _, _, _, _, _, _, _, _, _, _, _, h => h.elim

theorem vops_mono {ref : Bool} {ops : Array Oper} {K K' : (Nat → V) → St → Prop} (hk : ∀ fr σ, K fr σ → K' fr σ) : ∀ (l : List Oper) (fr : Nat → V) (σ : St), vops P τ hint nt ops ref l fr σ K → vops P τ hint nt ops ref l fr σ K'
  | [], fr, σ, h => hk _ _ h
  | o :: l, fr, σ, h => by
    have putm : ∀ v fr (A B : (Nat → V) → Prop), (∀ fr, A fr → B fr) → vput nt o v fr A → vput nt o v fr B := by
      intro v fr A B hab h
      unfold vput at h ⊢
      split
      · rename_i d hd
        simp only [hd] at h
        split at h
        · rename_i hlt; rw [if_pos hlt]; exact hab _ h
        · exact h.elim
      · rename_i hd
        simp only [hd] at h
        exact hab _ h
    simp only [vops] at h ⊢
    cases hw : wantedV ops fr o with
    | none => rw [hw] at h; exact h
    | some b =>
      rw [hw] at h
      cases b with
      | false => exact putm _ _ _ _ (fun fr h => vops_mono hk l fr σ h) h
      | true =>
        simp only at h ⊢
        have stepm : ∀ (A B : V → St → Prop), (∀ v σ, A v σ → B v σ) → vstep P τ hint ref o fr σ A → vstep P τ hint ref o fr σ B := by
          intro A B hab h
          unfold vstep at h ⊢
          split at h
          · split at h
            · rcases h with h | ⟨hr, he, h⟩ | ⟨q1, v, σ', q2, q3, q4⟩
              · left
                unfold vcall at h ⊢
                split at h
                · obtain ⟨r, h1, h2, h3⟩ := h
                  exact ⟨r, h1, h2, hab _ _ h3⟩
                · exact h.elim
              · right
                left
                refine ⟨hr, he, fun C cargs a1 a2 a3 => (h C cargs a1 a2 a3).mono ?_⟩
                rintro e w' ⟨C', σ', v, c, b1, b2, b3, b4, b5, b6⟩
                exact ⟨C', σ', v, c, b1, b2, b3, b4, b5, hab _ _ b6⟩
              · exact .inr (.inr ⟨q1, v, σ', q2, q3, hab _ _ q4⟩)
            · exact h.elim
          · split at h
            · exact hab _ _ h
            · exact h.elim
        unfold vstepN at h ⊢
        split
        · rename_i t x b hn
          rw [hn] at h
          simp only at h
          unfold vnil at h ⊢
          split at h
          · split at h
            · exact ⟨fun he => putm _ _ _ _ (fun fr h => vops_mono hk l fr σ h) (h.1 he), putm _ _ _ _ (fun fr h => vops_mono hk l fr σ h) h.2⟩
            · exact putm _ _ _ _ (fun fr h => vops_mono hk l fr σ h) h
            · exact h.elim
          · exact h.elim
        · rename_i hn
          rw [hn] at h
          exact stepm _ _ (fun v σ h => putm _ _ _ _ (fun fr h => vops_mono hk l fr σ h) h) h

theorem vwp_mono {Q Q' : Exit → (Nat → V) → St → Prop} (hq : ∀ e fr σ, Q e fr σ → Q' e fr σ) : ∀ (c : Code) (fr : Nat → V) (σ : St), vwp P τ hint nt c fr σ Q → vwp P τ hint nt c fr σ Q' := by
  intro c
  induction c generalizing Q Q' with
  | skip => exact fun fr σ h => hq _ _ _ h
  | exit id => exact fun fr σ h => hq _ _ _ h
  | ret => exact fun fr σ h => hq _ _ _ h
  | region id ops draw =>
    cases draw with
    | true => exact fun fr σ h => vops_mono (fun fr σ h => ⟨h.1, hq _ _ _ h.2⟩) _ fr σ h
    | false => exact fun fr σ h => vops_mono (fun fr σ h => hq _ _ _ h) _ fr σ h
  | seq x y ihx ihy =>
    intro fr σ h
    refine ihx ?_ fr σ h
    intro e fr σ h
    cases e with
    | normal => exact ihy hq fr σ h
    | _ => exact hq _ _ _ h
  | cond c x y ihx ihy =>
    intro fr σ h
    simp only [vwp] at h ⊢
    split at h
    · rename_i t ht
      split at h
      · rename_i hh; rw [if_pos hh]; exact ihx hq fr σ h
      · rename_i hh; rw [if_neg hh]; exact ihy hq fr σ h
    · exact h.elim
  | block id x ih =>
    intro fr σ h
    refine ih ?_ fr σ h
    intro e fr σ h
    cases e with
    | exit id' =>
      simp only at h ⊢
      split at h
      · rename_i hh; rw [if_pos hh]; exact hq _ _ _ h
      · rename_i hh; rw [if_neg hh]; exact hq _ _ _ h
    | _ => exact hq _ _ _ h
  | loop x ih =>
    rintro fr σ ⟨I, h0, hs⟩
    refine ⟨I, h0, fun m fr σ hI => ih ?_ fr σ (hs m fr σ hI)⟩
    intro e fr σ h
    cases e with
    | normal => exact h
    | _ => exact hq _ _ _ h
  | rangeFunc g ps x y ihx ihy =>
    intro fr σ h
    unfold vwp at h ⊢
    generalize veval fr g = vg at h ⊢
    cases vg <;> first | exact h.elim | skip
    rename_i F caps
    simp only at h ⊢
    generalize vargs1 σ caps = va at h ⊢
    rcases va with _ | ⟨us, _ | _⟩ <;> first | exact h.elim | skip
    simp only at h ⊢
    obtain ⟨xs, I, h1, h2, h3, h4, h5, h6⟩ := h
    refine ⟨xs, I, h1, h2, h3, h4, fun k x σ hx hI => ihx ?_ _ _ (h5 k x σ hx hI), fun σ h => hq _ _ _ (h6 σ h)⟩
    intro e fr' σ' h
    cases e <;> first | exact h | skip
    refine ihy ?_ _ _ h
    intro e fr'' σ'' h
    cases e with
    | normal => exact h
    | ret => exact hq _ _ _ h
    | exit id => exact hq _ _ _ h
    | _ => exact h
  | _ => exact fun fr σ h => h

/-! ### Functions -/
def vresL (τ : TypeId → Option TyD) (fr : Nat → V) (σ : St) : List ResultVar → Option (List V)
  | [] => some []
  | .tmp t :: r => (vresL τ fr σ r).map (fr t :: ·)
  | .cell a ty :: r => match vload τ σ ty (fr a), vresL τ fr σ r with
    | some v, some vs => some (v :: vs)
    | _, _ => none

/-- A function's captured variables: what they hold stays. -/
def vcap (σ : St) (v : V) : Option V :=
  match v with
  | .ptr o off => match σ.h o with
    | some (.cells cs) => (stripL (cs.drop off)).map .rp
    | _ => none
  | v => strip1 v
def vcaps (σ : St) : List V → Option (List V)
  | [] => some []
  | v :: r => match vcap σ v, vcaps σ r with
    | some u, some us => some (u :: us)
    | _, _ => none

def vseal (σ : St) (v : V) : Option V :=
  match v with
  | .fn f caps => (vcaps σ caps).map (.fn f)
  | .sl sz es (.tok t) => match σ.h t with
    | some (.tok e) => some (.sl sz es (.own e))
    | _ => some (.sl sz es .no)
  | .sl sz es .clip => some (.sl sz es .clip)
  | .osl o off len _ => match σ.h o with
    | some (.cells cs) => if off + len ≤ cs.length then (stripL ((cs.drop off).take len)).map fun ys => .sl 1 ys .no else none
    | _ => none
  | v => strip v

def vres (τ : TypeId → Option TyD) (fr : Nat → V) (σ : St) (rs : List ResultVar) : Option V :=
  match vresL τ fr σ rs with
  | some [v] => some v
  | some vs => some (.tup vs)
  | none => none

def initFr (args : List V) : Nat → V := fun t => (args[t]?).getD .undef

/-- What a function hands back. -/
def vret (τ : TypeId → Option TyD) (rs : List ResultVar) (r : V) : Exit → (Nat → V) → St → Prop := fun e fr σ =>
  match e with
  | .normal => ∃ r', (vres τ fr σ rs).bind (vseal σ) = some r' ∧ Vle r' r
  | .ret => ∃ r', (vres τ fr σ rs).bind (vseal σ) = some r' ∧ Vle r' r
  | _ => False

def resOne (tmps : Array Value) : ResultVar → Sem Value
  | .tmp t => pure (tmps.getD t undef)
  | .cell p t => do loadVar t (← asAddr (tmps.getD p undef))

theorem vresL_ok (hτ : TyOk P τ) {C : Cx} {σ : St} (hσ : StRel C σ) {fr : Nat → V} {a : Act} (hf : FrRel C fr a) : ∀ {rs : List ResultVar} {vs : List V}, vresL τ fr σ rs = some vs →
    ∃ cs : List Value, (rs.mapM (m := Sem) (resOne a.tmps)).run P C.w = .ok cs C.w ∧ cs.length = vs.length ∧ ∀ (j : Nat) v c, vs[j]? = some v → cs[j]? = some c → VRel C v c
  | [], vs, h => by
    simp only [vresL, Option.some.injEq] at h
    subst h
    exact ⟨[], rfl, rfl, fun j v c h => by simp at h⟩
  | .tmp t :: r, vs, h => by
    simp only [vresL] at h
    obtain ⟨us, hus, rfl⟩ := Option.map_eq_some_iff.1 h
    obtain ⟨cs, h1, h2, h3⟩ := vresL_ok hτ hσ hf hus
    refine ⟨a.tmps.getD t undef :: cs, by simp only [List.mapM_cons, resOne, Sem.run_bind, Sem.run_pure, Result.andThen_ok, h1], by simp [h2], fun j v c hv hc => ?_⟩
    cases j with
    | zero => simp only [List.getElem?_cons_zero, Option.some.injEq] at hv hc; subst hv; subst hc; exact hf t
    | succ j => exact h3 j v c (by simpa using hv) (by simpa using hc)
  | .cell p ty :: r, vs, h => by
    simp only [vresL] at h
    split at h <;> first | (cases h; done) | skip
    rename_i v us hv hus
    simp only [Option.some.injEq] at h
    subst h
    obtain ⟨cs, h1, h2, h3⟩ := vresL_ok hτ hσ hf hus
    obtain ⟨c, h4, h5⟩ := vload_ok hτ hσ (hf p) hv
    have hp : ∃ x, a.tmps.getD p undef = .pointer (some x) := by
      unfold Instr.loadAt at h4
      cases hq : a.tmps.getD p undef with
      | pointer x => cases x with
        | some x => exact ⟨x, rfl⟩
        | none => rw [hq] at h4; simp [Instr.sureAddr] at h4
      | _ => rw [hq] at h4; simp [Instr.sureAddr] at h4
    obtain ⟨x, hx⟩ := hp
    rw [hx] at h4
    have h4' : (loadVar ty x).run P C.w = .ok c C.w := by simpa [Instr.loadAt, Instr.sureAddr] using h4
    have e1 : (asAddr (a.tmps.getD p undef)).run P C.w = .ok x C.w := by rw [hx]; rfl
    refine ⟨c :: cs, by simp only [List.mapM_cons, resOne, Sem.run_bind, e1, Sem.run_pure, Result.andThen_ok, h4', h1], by simp [h2], fun j u d hu hd => ?_⟩
    cases j with
    | zero => simp only [List.getElem?_cons_zero, Option.some.injEq] at hu hd; subst hu; subst hd; exact h5
    | succ j => exact h3 j u d (by simpa using hu) (by simpa using hd)

theorem vres_ok (hτ : TyOk P τ) {C : Cx} {σ : St} (hσ : StRel C σ) {fr : Nat → V} {a : Act} (hf : FrRel C fr a) {fn : Func} {v : V} (h : vres τ fr σ fn.results.toList = some v) : ∃ c, (results fn a.tmps).run P C.w = .ok c C.w ∧ VRel C v c := by
  unfold vres at h
  have main : ∀ vs, vresL τ fr σ fn.results.toList = some vs → ∃ cs : List Value, (results fn a.tmps).run P C.w = .ok (if h : cs.toArray.size = 1 then cs.toArray[0] else .tuple cs.toArray) C.w ∧ cs.length = vs.length ∧ ∀ (j : Nat) v c, vs[j]? = some v → cs[j]? = some c → VRel C v c := by
    intro vs hvs
    obtain ⟨cs, h1, h2, h3⟩ := vresL_ok hτ hσ hf hvs
    refine ⟨cs, ?_, h2, h3⟩
    show (do let vs ← fn.results.mapM (resOne a.tmps); pure (if h : vs.size = 1 then vs[0] else .tuple vs) : Sem Value).run P C.w = _
    rw [Array.mapM_eq_mapM_toList]
    simp only [Sem.run_bind, Sem.run_map, h1, Result.andThen_ok, Sem.run_pure]
  split at h <;> first | (cases h; done) | skip
  · rename_i u hu
    simp only [Option.some.injEq] at h
    subst h
    obtain ⟨cs, h1, h2, h3⟩ := main _ hu
    match cs, h2 with
    | [c], _ => exact ⟨c, h1, h3 0 _ _ rfl rfl⟩
  · rename_i vs hne hvs
    simp only [Option.some.injEq] at h
    subst h
    obtain ⟨cs, h1, h2, h3⟩ := main _ hvs
    have hn1 : ¬ cs.toArray.size = 1 := by
      intro hs
      have : vs.length = 1 := by rw [← h2]; simpa using hs
      match vs, this with
      | [u], _ => exact hne u rfl
    rw [dif_neg hn1] at h1
    exact ⟨_, h1, .tup _ _ (by simp [h2]) fun j v c hv hc => h3 j v c hv (by simpa using hc)⟩

theorem vcap_ok {C : Cx} {σ : St} (hσ : StRel C σ) {S : Addr → Prop} (hE : ∀ {v c}, PRel C.w C.S v c → PRel C.w S v c) (hfresh : ∀ o g, (C.m o).blk = some g → ∀ p : Addr, p.block = g → S p) {v u : V} {c : Value} (hv : VRel C v c) (h : vcap σ v = some u) : PRel C.w S u c := by
  unfold vcap at h
  split at h
  · rename_i o off
    split at h <;> first | (cases h; done) | skip
    rename_i cs hcs
    obtain ⟨ys, hys, rfl⟩ := Option.map_eq_some_iff.1 h
    obtain ⟨g, cur, e, hg, hh, hl, hcell⟩ := hσ.cells hcs
    obtain ⟨x, rfl, hm, hx⟩ := hv.inv_ptr
    have hxg := hx g hg
    subst hxg
    obtain ⟨hl', hget⟩ := stripL_ok hys
    have key : ∀ (j : Nat) u, ys[j]? = some u → ∃ c, cur[off + j]? = some c ∧ C.w.cell? ⟨g, off + j, none⟩ = some c ∧ PRel C.w C.S u c ∧ u.one = true := fun j u hu => by
      obtain ⟨v, hv, hs⟩ := hget j u hu
      rw [List.getElem?_drop] at hv
      obtain ⟨a1, c, a2, a3, a4, _⟩ := hcell _ v hv
      exact ⟨c, a2, a3, strip1_ok a4 hs⟩
    refine .rp ys _ (fun k => (cur[off + k]?).getD default) (fun k u hk => ?_) (fun k u hk => ?_)
    · obtain ⟨c, a1, a2, a3, a4⟩ := key k u hk
      exact ⟨a4, hfresh o g (by rw [hg]; rfl) _ (by rw [add_block]), by rw [addr_add, a2, a1]; rfl⟩
    · obtain ⟨c, a1, a2, a3, a4⟩ := key k u hk
      rw [a1]
      exact hE a3
  · exact hE (strip1_ok hv h).1

theorem vcaps_ok {C : Cx} {σ : St} (hσ : StRel C σ) {S : Addr → Prop} (hE : ∀ {v c}, PRel C.w C.S v c → PRel C.w S v c) (hfresh : ∀ o g, (C.m o).blk = some g → ∀ p : Addr, p.block = g → S p) : ∀ {vs us : List V} {cs : List Value}, vs.length = cs.length → (∀ (j : Nat) v c, vs[j]? = some v → cs[j]? = some c → VRel C v c) → vcaps σ vs = some us →
    us.length = cs.length ∧ ∀ (j : Nat) v c, us[j]? = some v → cs[j]? = some c → PRel C.w S v c
  | [], us, [], _, _, h => by
    simp only [vcaps, Option.some.injEq] at h
    subst h
    exact ⟨rfl, fun j v c h => by simp at h⟩
  | v :: vs, us, c :: cs, hl, hr, h => by
    simp only [vcaps] at h
    split at h <;> first | (cases h; done) | skip
    rename_i u us' h1 h2
    simp only [Option.some.injEq] at h
    subst h
    have k1 := vcap_ok hσ hE hfresh (hr 0 v c rfl rfl) h1
    obtain ⟨q1, q2⟩ := vcaps_ok hσ hE hfresh (by simpa using hl) (fun j v c hv hc => hr (j + 1) v c (by simpa using hv) (by simpa using hc)) h2
    refine ⟨by simp [q1], fun j w d hw hd => ?_⟩
    cases j with
    | zero => simp only [List.getElem?_cons_zero, Option.some.injEq] at hw hd; subst hw; subst hd; exact k1
    | succ j => exact q2 j w d (by simpa using hw) (by simpa using hd)

theorem vseal_ok {C : Cx} {σ : St} (hσ : StRel C σ) {w : World} {S : Addr → Prop} (hE : C.E = S) (hfresh : ∀ o g, (C.m o).blk = some g → w.heap.size ≤ g) (hS : ∀ p : Addr, w.heap.size ≤ p.block → S p) {v r : V} {c : Value} (hv : VRel C v c) (h : vseal σ v = some r) : RetRel w C.w S r c := by
  have up : ∀ {v c}, PRel C.w C.S v c → PRel C.w S v c := fun h => h.mono fun p x hp hx => ⟨by rw [← hE]; exact hp.1, hx⟩
  unfold vseal at h
  split at h
  · rename_i f caps
    obtain ⟨us, hus, rfl⟩ := Option.map_eq_some_iff.1 h
    obtain ⟨ds, rfl, hdl, hdr⟩ := hv.inv_fn
    obtain ⟨q1, q2⟩ := vcaps_ok hσ up (fun o g hg p hp => hS p (by rw [hp]; exact hfresh o g hg)) (cs := ds.toList) (by simpa using hdl.symm) (fun j v c h1 h2 => hdr j v c h1 ((Array.getElem?_toList).symm.trans h2)) hus
    exact .fn f us ds (by simpa using q1.symm) fun j v c h1 h2 => q2 j v c h1 ((Array.getElem?_toList).trans h2)
  · rename_i sz es t
    split at h
    · rename_i e ht
      simp only [Option.some.injEq] at h
      subst h
      cases hv with
      | pure _ _ h => cases h with
        | sl _ _ _ _ _ _ _ _ _ _ _ hg =>
          rcases hg with h | h
          · cases h
          · cases h.1
      | tok _ _ _ _ hp hm q1 q2 =>
        rcases hσ.tok t e ht with ⟨a, hm'⟩ | ⟨a, n, cap, sz', xs, hm', ho⟩
        · have := q2 a 0 hm'
          subst this
          left
          refine ⟨?_, a, rfl⟩
          cases hp with
          | sl _ _ _ _ _ _ _ hlen => exact List.eq_nil_of_length_eq_zero hlen
        · obtain ⟨r1, r2⟩ := q1 a n cap e sz' hm'
          subst r1; subst r2
          right
          have hn : es.length = n := by
            cases hp with
            | sl _ _ _ _ _ _ _ hlen => exact hlen
          subst hn
          refine ⟨a, cap, xs, rfl, ?_, hp.mono fun p x hpx hx => ⟨⟨by rw [← hE]; exact hpx.1, fun y hy hb => ?_⟩, hx⟩⟩
          · obtain ⟨hl, ho'⟩ := ho
            refine ⟨hl, ?_⟩
            rcases ho' with ho' | ⟨gb, c', cur, hv', _, rest⟩
            · exact .inl ho'
            · simp only [Value.slice.injEq] at hv'
              exact .inr ⟨gb, c', cur, by rw [hv'.1, hv'.2.2], hfresh t gb (by rw [hm', hv'.1]; rfl), rest⟩
          · subst hy
            exact hpx.2.2 t y _ cap e sz' hm' hb
    · simp only [Option.some.injEq] at h
      subst h
      exact up hv.inv_sl
  · simp only [Option.some.injEq] at h
    subst h
    exact up hv.inv_clip
  · rename_i o off len cap
    split at h <;> first | (cases h; done) | skip
    rename_i cs hcs
    split at h <;> first | (cases h; done) | skip
    rename_i hle
    obtain ⟨ys, hys, rfl⟩ := Option.map_eq_some_iff.1 h
    obtain ⟨g, hg, _⟩ := hσ.obj o cs hcs
    obtain ⟨x, cp, rfl, hm, hlc, hcp, hmax, hx⟩ := hv.inv_osl
    have hxg := hx g hg
    subst hxg
    -- the elements' own parts are still; the object's block is the function's own
    obtain ⟨hl', hget⟩ := stripL_ok hys
    obtain ⟨g', cur, e, hg', hh, hl, hcell⟩ := hσ.cells hcs
    rw [hg] at hg'
    simp only [Ent.obj.injEq] at hg'
    subst hg'
    have hlen : ys.length = len := by rw [hl']; simp; omega
    have key : ∀ (j : Nat) u, ys[j]? = some u → ∃ c, cur[off + j]? = some c ∧ C.w.cell? ⟨g, off + j, none⟩ = some c ∧ PRel C.w C.S u c ∧ u.one = true := fun j u hu => by
      obtain ⟨v, hv, hs⟩ := hget j u hu
      rw [List.getElem?_take] at hv
      split at hv
      · rw [List.getElem?_drop] at hv
        obtain ⟨a1, c, a2, a3, a4, _⟩ := hcell _ v hv
        exact ⟨c, a2, a3, strip1_ok a4 hs⟩
      · cases hv
    have hgb := hfresh o g (by rw [hg]; rfl)
    refine .sl 1 ys .no _ len cp (fun q => (cur[off + q]?).getD default) hlen (by omega) hmax (fun h => by cases h) (.inl rfl) (fun j u hj => ?_) (fun y j u k q hy hj hk => ?_) (fun j u k q hj hk => ?_)
    · obtain ⟨_, _, _, _, a4⟩ := key j u hj
      rw [cells_one a4]; rfl
    · obtain ⟨c, a1, a2, a3, a4⟩ := key j u hj
      rw [cells_one a4] at hk
      simp only [Option.some.injEq] at hy
      subst hy
      cases k with
      | zero =>
        simp only [List.getElem?_cons_zero, Option.some.injEq] at hk
        subst hk
        exact ⟨a4, hS _ (by rw [add_block]; exact hgb), by rw [addr_add]; simp only [Nat.mul_one, Nat.add_zero]; rw [a2, a1]; rfl⟩
      | succ k => simp at hk
    · obtain ⟨c, a1, a2, a3, a4⟩ := key j u hj
      rw [cells_one a4] at hk
      cases k with
      | zero =>
        simp only [List.getElem?_cons_zero, Option.some.injEq] at hk
        subst hk
        simp only [Nat.mul_one, Nat.add_zero]
        rw [a1]
        exact up a3
      | succ k => simp at hk
  · have hp := up (strip_ok hv h)
    unfold RetRel
    split
    · rename_i sz es e
      cases hp with
      | sl _ _ _ _ _ _ _ _ _ _ _ hg =>
        rcases hg with h | h
        · cases h
        · cases h.1
    · exact hp

/-- The marks are taken away, one by one. -/
theorem leaves_ok {fn : Func} {R : Ending → World → Prop} {C : Cx} {fr : Nat → V} {a : Act} {σ : St} (fin : ∀ C', Ext' C C' → StRel C' σ → FrRel C' fr a → LeavesIn (Fr none) 0 P fn a.tmps R [] .returning C'.w) :
    ∀ (Ds : List Nat) (C' : Cx), Ext' C C' → StRel C' σ → FrRel C' fr a → Marks C' C.w.heap.size Ds → LeavesInM (Fr none) 0 P fn a.tmps R (Ds.map mark1) .returning C'.w
  | [], C', h1, h2, h3, _ => fin C' h1 h2 h3
  | D :: Ds, C', h1, h2, h3, hm => by
    obtain ⟨k1, k2, k3⟩ := hm.2 D (by simp)
    have hnd := List.nodup_cons.1 hm.1
    obtain ⟨r1, r2, r3, r4⟩ := h2.putRec h1 (.deferred none) k1 k3 k2 rfl
    exact ⟨by simp, .inl ⟨D, _, rfl, run_takeDeferred k2, leaves_ok fin Ds _ r1 r2 (r3 _ _ h3) (r4 _ _ ⟨hnd.2, fun D' hD' => hm.2 D' (by simp [hD'])⟩ hnd.1)⟩⟩

/-- A function that only computes, out of its body. -/
theorem pure_of_body (hτ : TyOk P τ) (hm : P.follows .mixedOrders = true) {f : FuncId} {fn : Func} {c : Code} (hf : P.funcs[f]? = some fn) (hb : fn.body = some c) (hname : (fn.name == "runtime.NumGoroutine") = false) (hint : Nat → Nat) (hok : okCode hint true c = true) {args : List V} {r : V}
    (h : vwp P τ hint fn.ntmps c (initFr args) ⟨fun _ => none, 0⟩ (vret τ fn.results.toList r)) : VPure P f args r := by
  refine ⟨enters_of hf hname (by rw [hb]; rfl), fun w S cargs hS hG hl hr => ?_⟩
  have hcw : ∀ cs, CallsIn (Fr none) 0 P f cs w (fun e w' => ∃ c, e = .returned c ∧ Below w.heap.size w w' ∧ RetRel w w' S r c) → Calls P f cs w (fun e w' => ∃ c, e = .returned c ∧ Below w.heap.size w w' ∧ RetRel w w' S r c) := fun cs h => callsIn_wide.1 h
  refine hcw _ (callsIn_of_wp_marks hf hb trivial ?_)
  let C : Cx := ⟨w, fun _ => .none, S⟩
  have hCS : ∀ p, S p → C.S p := fun p hp => ⟨hp, fun o g h => (by cases h), fun t x n cap e sz h => (by cases h)⟩
  have hσ : StRel C ⟨fun _ => none, 0⟩ := ⟨hS, fun o h => absurd rfl h, fun o cs h => (by cases h), fun t e h => (by cases h), fun o g h => (by cases h), fun t a n cap e sz h => (by cases h), fun o o' g h => (by cases h), fun o g h => (by cases h), fun o g h => (by cases h), fun g cs hgl => .pure _ _ ((hG g cs hgl).mono fun p x hp hx => ⟨hCS p hp, hx⟩)⟩
  have hfr : FrRel C (initFr args) { tmps := cargs ++ Array.replicate (fn.ntmps - cargs.size) undef, defers := [] } := by
    intro t
    unfold initFr
    cases ht : args[t]? with
    | none => exact .undef _
    | some v =>
      have hlt : t < cargs.size := by rw [← hl]; exact (List.getElem?_eq_some_iff.1 ht).1
      have hc : cargs[t]? = some cargs[t] := Array.getElem?_eq_getElem hlt
      have : (cargs ++ Array.replicate (fn.ntmps - cargs.size) undef).getD t undef = cargs[t] := by
        rw [Array.getD_eq_getD_getElem?, Array.getElem?_append_left hlt, hc]; rfl
      simp only [this]
      exact .pure _ _ ((hr t v _ ht hc).mono fun p x hp hx => ⟨hCS p hp, hx⟩)
  refine wpIn_mono (vwp_ok hτ hm c none true (fun _ => rfl) (initFr args) _ _ C _ hσ hfr (by simp; omega) hok h) ?_
  rintro e a' w' ⟨C', fr', σ', Ds, rfl, x1, x2, x3, x4, x5, xm, x6⟩
  have fin : (∃ r', (vres τ fr' σ' fn.results.toList).bind (vseal σ') = some r' ∧ Vle r' r) → LeavesInM (Fr none) 0 P fn a'.tmps (fun e w' => ∃ c, e = .returned c ∧ Below w.heap.size w w' ∧ RetRel w w' S r c) a'.defers .returning C'.w := by
    rintro ⟨r', hq, hle⟩
    obtain ⟨v, hv, hs⟩ := Option.bind_eq_some_iff.1 hq
    rw [x5, List.append_nil]
    refine leaves_ok (fun C'' y1 y2 y3 => ?_) Ds C' x1 x2 x3 xm
    obtain ⟨c, h1, h2⟩ := vres_ok hτ y2 y3 hv
    refine ⟨c, h1, c, rfl, ⟨y1.os, y1.tape, y1.output, y1.size, fun k hk => y1.blk k hk fun o ho => (by cases ho)⟩, ?_⟩
    refine RetRel.le ?_ hle
    refine vseal_ok y2 y1.E (fun o g hg => ?_) hS h2 hs
    rcases Nat.lt_or_ge g w.heap.size with hlt | hge
    · obtain ⟨o', ho'⟩ := y1.fresh g hlt ⟨o, hg⟩
      cases ho'
    · exact hge
  cases e with
  | normal => exact fin x6
  | ret => exact fin x6
  | exit id => exact x6.elim
  | goto id => exact x6.elim
  | panic ch => exact x6.elim
  | outgrown => exact x6.elim
end
end Go.Vx
