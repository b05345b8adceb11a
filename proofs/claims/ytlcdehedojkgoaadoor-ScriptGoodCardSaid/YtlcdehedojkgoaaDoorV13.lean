/- Steps, and the order in which a region's operations are carried out. -/
import Derived.Test.YtlcdehedojkgoaaDoorV12
namespace Go.Vx
open Go.RowKit Go.Fl
set_option linter.unusedVariables false
set_option linter.unusedSimpArgs false

def Fr (ro : Option Nat) : Fence := { fn := fun _ => True, depth := none, alive := false, round := ro }

section
variable (P : Program) (τ : TypeId → Option TyD) (hint : Nat → Nat) (nt : Nat) (ops : Array Oper)

def hintOf (hint : Nat → Nat) (o : Oper) : Nat := match o.dst with
  | some d => hint d
  | none => 0

def wantedV (fr : Nat → V) (o : Oper) : Option Bool :=
  match o.guard with
  | none => some true
  | some (j, want) => match ops[j]? with
    | some oj => match oj.dst with
      | some d => match fr d with
        | .b x => some (x == want)
        | .tup [] => some false
        | _ => none
      | none => none
    | none => none

def vcall (σ : St) (h : Nat) (F : FuncId) (vals : List V) (K : V → St → Prop) : Prop :=
  match vargs σ vals with
  | some (us, b) => ∃ r, VPure P F us r ∧ (b = true → r.free = true) ∧ K (vrecv σ h r).1 (vrecv σ h r).2
  | none => False

/-- Nothing is known of what is not made yet. -/
def St.WF (σ : St) : Prop := ∀ o, σ.n ≤ o → σ.h o = none
/-- A call of a function that is handed objects, and leaves just this. -/
def VRefX (F : FuncId) (vals : List V) (σ : St) (K : V → St → Prop) : Prop := ∃ v σ', (σ.WF → σ'.WF) ∧ VRef P F vals σ (fun v1 σ1 => v1 = v ∧ σ1 = σ') ∧ K v σ'

def vstep (ref : Bool) (o : Oper) (fr : Nat → V) (σ : St) (K : V → St → Prop) : Prop :=
  match o.op with
  | .call ⟨.value f, args, _⟩ => match veval fr f with
    | .fn F caps => vcall P σ (hintOf hint o) F (args.toList.map (veval fr) ++ caps) K ∨ (ref = true ∧ VRef P F (args.toList.map (veval fr) ++ caps) σ K) ∨ (hintOf hint o = 3 ∧ VRefX P F (args.toList.map (veval fr) ++ caps) σ K)
    | _ => False
  | _ => match vop τ (fun d => hint d == 2) fr σ o with
    | some (v, σ') => K v σ'
    | none => False

/-- A test of a slice for nil: where it holds nothing it may be nil or not. -/
def nilOf : Op → Option (TypeId × Operand × Bool)
  | .binOp .eql t x (.const (.slice none 0 0)) _ => some (t, x, true)
  | .binOp .neq t x (.const (.slice none 0 0)) _ => some (t, x, false)
  | _ => none
def nilTest (ref : Bool) (op : Op) : Option (TypeId × Operand × Bool) := if ref = true then nilOf op else none
def vnil (t : TypeId) (v : V) (b : Bool) (σ : St) (K : V → St → Prop) : Prop :=
  match τ t with
  | some ⟨.sl _, _, _, _⟩ => match v with
    | .sl _ es _ => (es = [] → K (.b b) σ) ∧ K (.b (!b)) σ
    | .osl .. => K (.b (!b)) σ
    | _ => False
  | _ => False
def vstepN (ref : Bool) (o : Oper) (fr : Nat → V) (σ : St) (K : V → St → Prop) : Prop :=
  match nilTest ref o.op with
  | some (t, x, b) => vnil τ t (veval fr x) b σ K
  | none => vstep P τ hint ref o fr σ K

def vput (o : Oper) (v : V) (fr : Nat → V) (K : (Nat → V) → Prop) : Prop :=
  match o.dst with
  | some d => if d < nt then K (upd fr d v) else False
  | none => K fr

def vops (ref : Bool) : List Oper → (Nat → V) → St → ((Nat → V) → St → Prop) → Prop
  | [], fr, σ, K => K fr σ
  | o :: rest, fr, σ, K => match wantedV ops fr o with
    | some true => vstepN P τ hint ref o fr σ fun v σ' => vput nt o v fr fun fr' => vops ref rest fr' σ' K
    | some false => vput nt o (.tup []) fr fun fr' => vops ref rest fr' σ K
    | none => False
end

section
variable {P : Program} {τ : TypeId → Option TyD} {hint : Nat → Nat} {nt : Nat} {ops : Array Oper} {ro : Option Nat}

theorem skip_rel (C : Cx) : VRel C (.tup []) undef := .tup [] #[] rfl (fun j v c h => by simp at h)
theorem wanted_ok {C : Cx} {fr : Nat → V} {a : Act} (hf : FrRel C fr a) {o : Oper} {b : Bool} (h : wantedV ops fr o = some b) : Region.wanted o (yielded ops a.tmps) = b := by
  unfold wantedV at h
  unfold Region.wanted
  split at h
  · rename_i hg
    simp only [Option.some.injEq] at h
    rw [hg]; exact h
  · rename_i j want hg
    rw [hg]
    split at h <;> first | (cases h; done) | skip
    rename_i oj hj
    split at h <;> first | (cases h; done) | skip
    rename_i d hd
    split at h <;> first | (cases h; done) | skip
    · rename_i x hx
      simp only [Option.some.injEq] at h
      have hv := hf d
      rw [hx] at hv
      have hb := hv.inv_b
      have ht : a.tmps[d]? = some (.bool x) := by
        rw [Array.getD_eq_getD_getElem?] at hb
        cases hq : a.tmps[d]? with
        | none => rw [hq] at hb; simp [undef] at hb
        | some y => rw [hq] at hb; simp at hb; rw [hb]
      have hy : yielded ops a.tmps j = some x := by simp [yielded, hj, hd, ht]
      simp only [hy]
      rw [← h]
      cases x <;> cases want <;> rfl
    · rename_i hx
      simp only [Option.some.injEq] at h
      have hv := hf d
      rw [hx] at hv
      obtain ⟨ds, hds, hl, -⟩ := hv.inv_tup
      have e : ds = #[] := Array.eq_empty_of_size_eq_zero hl
      subst e
      have hy : yielded ops a.tmps j = none := by
        unfold yielded
        simp only [hj, Option.bind_some, hd]
        rw [Array.getD_eq_getD_getElem?] at hds
        cases hq : a.tmps[d]? with
        | none => rfl
        | some y => rw [hq] at hds; simp only [Option.getD_some] at hds; rw [hds]
      simp only [hy]
      rw [← h]
      rfl

theorem FrRel.put {C : Cx} {fr : Nat → V} {a : Act} (hf : FrRel C fr a) {d : Nat} (hd : d < a.tmps.size) {v : V} {c : Value} (hv : VRel C v c) : FrRel C (upd fr d v) (a.put (some d) c) := by
  intro t
  by_cases he : t = d
  · subst he
    rw [upd_same]
    simp only [Act.put, Array.getD_eq_getD_getElem?, Array.getElem?_setIfInBounds_self, hd, if_true, Option.getD_some]
    exact hv
  · rw [upd_ne _ _ he]
    simp only [Act.put, Array.getD_eq_getD_getElem?, Array.getElem?_setIfInBounds_ne (Ne.symm he)]
    have := hf t
    rwa [Array.getD_eq_getD_getElem?] at this

theorem vput_ok {C : Cx} {fr : Nat → V} {a : Act} (hf : FrRel C fr a) (hn : nt ≤ a.tmps.size) {o : Oper} {v : V} {c : Value} (hv : VRel C v c) {K : (Nat → V) → Prop} (h : vput nt o v fr K) :
    ∃ fr', K fr' ∧ FrRel C fr' (a.put o.dst c) ∧ nt ≤ (a.put o.dst c).tmps.size ∧ (a.put o.dst c).defers = a.defers := by
  unfold vput at h
  cases hd : o.dst with
  | some d =>
    simp only [hd] at h
    by_cases hlt : d < nt
    · rw [if_pos hlt] at h
      have h2 : d < a.tmps.size := Nat.lt_of_lt_of_le hlt hn
      exact ⟨_, h, hf.put h2 hv, by simp [Act.put]; exact hn, rfl⟩
    · rw [if_neg hlt] at h; exact h.elim
  | none =>
    simp only [hd] at h
    exact ⟨_, h, hf, hn, rfl⟩

theorem vop_plain {b : Nat → Bool} {fr : Nat → V} {σ : St} {o : Oper} {x : V × St} (h : vop τ b fr σ o = some x) : ∀ c, o.op ≠ .defer c := by
  intro c hc
  unfold vop at h
  rw [hc] at h
  cases h

theorem callsIn_fr {n : Nat} {f : FuncId} {args : Array Value} {w : World} {R : Ending → World → Prop} (h : Calls P f args w R) : CallsIn (Fr ro) n P f args w R := by
  have : CallsIn Fence.wide n P f args w R := callsIn_wide.2 h
  exact this

theorem call_run {o : Oper} {f : Operand} {args : Array Operand} {ts : Array TypeId} (ho : o.op = .call ⟨.value f, args, ts⟩) {a : Act} {F : FuncId} {ds : Array Value} (hf : a.eval f = .func (.func F) #[] ds) (he : Enters P F) (w : World) :
    (o.semAt (Fr ro).round a.eval).run P w = .ok (.enter F (args.map a.eval ++ ds)) w := by
  rw [Oper.semAt_eq _ _ _ (by rw [ho]; intro c h; cases h)]
  simp only [execOp, ho, resolve, hf, Deferred.ofValue, Sem.run_bind, Sem.run_pure, Result.andThen_ok, invoke, Array.empty_append]
  exact he _ w

/-- One step, and what goes on behind it. -/
theorem vstep_ok (hτ : TyOk P τ) {C : Cx} {σ : St} (hσ : StRel C σ) {fr : Nat → V} {a : Act} (hf : FrRel C fr a) {ref : Bool} {o : Oper} {K : V → St → Prop} (h : vstep P τ hint ref o fr σ K) {next : Act → World → Prop} {Q : Exit → Act → World → Prop}
    (hK : ∀ C' σ' v c, Ext' C C' → StRel C' σ' → VRel C' v c → K v σ' → next (a.put o.dst c) C'.w) : o.wpIn (Fr ro) 0 P a C.w next Q := by
  refine ⟨fun _ _ => trivial, ?_⟩
  unfold vstep at h
  split at h
  · rename_i f args ts ho
    split at h <;> first | exact h.elim | skip
    rename_i F caps hfv
    have hfr := veval_rel hσ hf f
    rw [hfv] at hfr
    obtain ⟨ds, hds, hdl, hdr⟩ := hfr.inv_fn
    obtain ⟨p1, p2⟩ := args_rel hσ hf args
    have hl : (args.toList.map (veval fr) ++ caps).length = (args.map a.eval ++ ds).size := by simp [hdl]
    have hr : ∀ (j : Nat) v c, (args.toList.map (veval fr) ++ caps)[j]? = some v → (args.map a.eval ++ ds)[j]? = some c → VRel C v c := by
      intro j v c hv hc
      rw [List.getElem?_append] at hv
      rw [Array.getElem?_append] at hc
      rw [p1] at hv
      split at hv
      · rename_i hj
        rw [if_pos hj] at hc
        exact p2 j v c hv hc
      · rename_i hj
        rw [if_neg hj] at hc
        exact hdr _ v c hv hc
    rcases h with h | ⟨_, he, h⟩ | ⟨_, v, σ', _, ⟨he, h⟩, hk⟩
    · unfold vcall at h
      split at h <;> first | exact h.elim | skip
      rename_i us b hus
      obtain ⟨r, ⟨he, hc⟩, hflat, hk⟩ := h
      obtain ⟨m1, m2, m3⟩ := vargs_ok hσ (by simpa using hl) (fun j v c hv hc => hr j v c hv ((Array.getElem?_toList).symm.trans hc)) hus
      rw [call_run ho hds he, Oper.uponIn_enter]
      refine ⟨fun h => (by cases h), callsIn_fr ?_⟩
      cases hb : b with
      | false =>
        refine (hc C.w C.S _ (fun p hp => hσ.fresh hp) hσ.gok (by rw [m1]; simp) (fun j v c hv hc => m2 hb j v c hv ((Array.getElem?_toList).trans hc))).mono ?_
        rintro e w' ⟨c, rfl, hbel, hret⟩
        obtain ⟨C', rfl, x1, x2, x3⟩ := vrecv_ok hσ hbel hret (hintOf hint o)
        exact hK C' _ _ c x1 x2 x3 hk
      | true =>
        refine (hc C.w (fun _ => True) _ (fun p hp => trivial) (hσ.gok.mono fun _ _ _ h => ⟨trivial, h⟩) (by rw [m1]; simp) (fun j v c hv hc => m3 j v c hv ((Array.getElem?_toList).trans hc))).mono ?_
        rintro e w' ⟨c, rfl, hbel, hret⟩
        have hfl := hflat hb
        have hret' : RetRel C.w w' C.S r c := free_ret (fun p hp => hσ.fresh hp) hret hfl
        obtain ⟨C', rfl, x1, x2, x3⟩ := vrecv_ok hσ hbel hret' (hintOf hint o)
        exact hK C' _ _ c x1 x2 x3 hk
    · rw [call_run ho hds he, Oper.uponIn_enter]
      refine ⟨fun h => (by cases h), callsIn_fr ((h C _ hσ hl hr).mono ?_)⟩
      rintro e w' ⟨C', σ', v, c, rfl, rfl, x1, x2, x3, x4⟩
      exact hK C' σ' v c x1 x2 x3 x4
    · rw [call_run ho hds he, Oper.uponIn_enter]
      refine ⟨fun h => (by cases h), callsIn_fr ((h C _ hσ hl hr).mono ?_)⟩
      rintro e w' ⟨C', σ1, v1, c, rfl, rfl, x1, x2, x3, rfl, rfl⟩
      exact hK C' _ _ c x1 x2 x3 hk
  · split at h <;> first | exact h.elim | skip
    rename_i v σ' hv
    obtain ⟨C', x1, x2, c, x3, x4⟩ := vop_ok hτ hσ hf hv
    rw [Oper.semAt_eq _ _ _ (vop_plain hv)]
    rcases x4 with x4 | ⟨x4, rfl⟩
    · rw [x4, Oper.uponIn_value]
      exact hK C' σ' v c x1 x2 x3 h
    · rw [x4, Oper.uponIn_skip]
      exact hK C' σ' v undef x1 x2 x3 h

theorem vstepN_ok (hτ : TyOk P τ) {C : Cx} {σ : St} (hσ : StRel C σ) {fr : Nat → V} {a : Act} (hf : FrRel C fr a) {ref : Bool} {o : Oper} {K : V → St → Prop} (h : vstepN P τ hint ref o fr σ K) {next : Act → World → Prop} {Q : Exit → Act → World → Prop}
    (hK : ∀ C' σ' v c, Ext' C C' → StRel C' σ' → VRel C' v c → K v σ' → next (a.put o.dst c) C'.w) : o.wpIn (Fr ro) 0 P a C.w next Q := by
  unfold vstepN at h
  split at h
  · rename_i t x b hn
    refine ⟨fun _ _ => trivial, ?_⟩
    unfold vnil at h
    split at h <;> first | exact h.elim | skip
    rename_i e s bb z ht
    obtain ⟨d, hd, he⟩ := (hτ _ _ ht).underlying
    obtain rfl := tdOf_sl he
    have key : ∀ (q : Option Addr) (n c : Nat), a.eval x = .slice q n c → (o.semAt (Fr ro).round a.eval).run P C.w = .ok (.value (.bool (if b = true then q.isNone else !q.isNone))) C.w := by
      intro q n c hx
      unfold nilTest at hn
      split at hn <;> first | (cases hn; done) | skip
      unfold nilOf at hn
      have e1 := Lib.run_equalIn_slice_nil (P := P) C.w 9999 t e q n c 0 0 hd
      split at hn <;> first | (cases hn; done) | skip
      · rename_i ho
        simp only [Option.some.injEq, Prod.mk.injEq] at hn
        obtain ⟨rfl, rfl, rfl⟩ := hn
        rw [Oper.semAt_eq _ _ _ (by rw [ho]; intro c h; cases h)]
        have eg : ∀ (t : TypeId) (x y : Operand), eqGuard .eql t x y (.slice q n c) (.slice none 0 0) = pure () := fun t x y => rfl
        have ec : a.eval (.const (.slice none 0 0)) = .slice none 0 0 := rfl
        simp [execOp, ho, hx, eg, ec, binOp, Op.equal, Op.maxDepth, e1]
      · rename_i ho
        simp only [Option.some.injEq, Prod.mk.injEq] at hn
        obtain ⟨rfl, rfl, rfl⟩ := hn
        rw [Oper.semAt_eq _ _ _ (by rw [ho]; intro c h; cases h)]
        have eg : ∀ (t : TypeId) (x y : Operand), eqGuard .neq t x y (.slice q n c) (.slice none 0 0) = pure () := fun t x y => rfl
        have ec : a.eval (.const (.slice none 0 0)) = .slice none 0 0 := rfl
        simp [execOp, ho, hx, eg, ec, binOp, Op.equal, Op.maxDepth, e1]
    have hx := veval_rel hσ hf x
    split at h <;> first | exact h.elim | skip
    · rename_i sz es g hv
      rw [hv] at hx
      obtain ⟨q, cap, xs, hc, hr, _⟩ := Flat.of_rd hx.inv_sl
      rw [key q _ _ hc, Oper.uponIn_value]
      cases q with
      | none =>
        have h0 : es.length = 0 := by have := hr.nul rfl; have := hr.le; omega
        have := h.1 (List.eq_nil_of_length_eq_zero h0)
        refine hK C σ _ _ (.refl _) hσ (.b _) ?_
        cases b <;> exact this
      | some y =>
        refine hK C σ _ _ (.refl _) hσ (.b _) ?_
        cases b <;> exact h.2
    · rename_i o1 off len cap hv
      rw [hv] at hx
      obtain ⟨y, cp, hc, _⟩ := hx.inv_osl
      rw [key _ _ _ hc, Oper.uponIn_value]
      refine hK C σ _ _ (.refl _) hσ (.b _) ?_
      cases b <;> exact h
  · exact vstep_ok hτ hσ hf h hK

/-- A region in the order of the text. -/
theorem vops_ok (hτ : TyOk P τ) {ref : Bool} {Q : Exit → Act → World → Prop} {K : (Nat → V) → St → Prop} : ∀ (l : List Oper) (k : Nat) (fr : Nat → V) (C : Cx) (σ : St) (a : Act), ops.toList.drop k = l → StRel C σ → FrRel C fr a → nt ≤ a.tmps.size →
    vops P τ hint nt ops ref l fr σ K → (∀ C' fr' σ' a', Ext' C C' → StRel C' σ' → FrRel C' fr' a' → nt ≤ a'.tmps.size → a'.defers = a.defers → K fr' σ' → Q .normal a' C'.w) → wpOpsIn (Fr ro) 0 P ops Q (List.range' k l.length) a C.w
  | [], k, fr, C, σ, a, _, hσ, hf, hn, h, hQ => hQ C fr σ a (.refl _) hσ hf hn rfl h
  | o :: l, k, fr, C, σ, a, hd, hσ, hf, hn, h, hQ => by
    have hok : ops[k]? = some o := by
      have : (ops.toList.drop k)[0]? = some o := by rw [hd]; rfl
      rw [List.getElem?_drop] at this
      simpa using this
    have hd' : ops.toList.drop (k + 1) = l := by
      have : (ops.toList.drop k).drop 1 = l := by rw [hd]; rfl
      rw [List.drop_drop] at this
      exact this
    simp only [List.length_cons, List.range'_succ, wpOpsIn, hok]
    simp only [vops] at h
    split at h <;> first | exact h.elim | skip
    · rename_i hw
      rw [wanted_ok hf hw, if_pos rfl]
      refine vstepN_ok hτ hσ hf h fun C' σ' v c x1 x2 x3 x4 => ?_
      obtain ⟨fr', y1, y2, y3, y4⟩ := vput_ok (hf.mono x1.toExt) hn x3 x4
      exact vops_ok hτ l (k + 1) fr' C' σ' _ hd' x2 y2 y3 y1 fun C'' fr'' σ'' a'' z1 z2 z3 z4 z5 z6 => hQ C'' fr'' σ'' a'' (x1.trans z1) z2 z3 z4 (z5.trans y4) z6
    · rename_i hw
      rw [wanted_ok hf hw, if_neg (by simp)]
      refine ⟨fun _ _ => trivial, ?_⟩
      obtain ⟨fr', y1, y2, y3, y4⟩ := vput_ok hf hn (skip_rel _) h
      exact vops_ok hτ l (k + 1) fr' C σ _ hd' hσ y2 y3 y1 fun C'' fr'' σ'' a'' z1 z2 z3 z4 z5 z6 => hQ C'' fr'' σ'' a'' z1 z2 z3 z4 (z5.trans y4) z6
end
end Go.Vx
