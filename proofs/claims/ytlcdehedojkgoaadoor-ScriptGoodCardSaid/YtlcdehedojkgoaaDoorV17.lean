/- Functions that hand out rows: their law out of their body. -/
import Derived.Test.YtlcdehedojkgoaaDoorV16
namespace Go.Vx
open Go.RowKit Go.Fl
set_option linter.unusedVariables false
set_option linter.unusedSimpArgs false

/-- How many rows have been handed out; whether it was told to stop. -/
structure It where
  k : Nat
  stop : Bool

abbrev St0 : St := ⟨fun _ => none, 0⟩

section
variable (P : Program) (τ : TypeId → Option TyD) (nt : Nat) (l : Nat) (xs : List (List V))

def istep (o : Oper) (fr : Nat → V) (s : It) (K : V → It → Prop) : Prop :=
  match o.op with
  | .call ⟨.value f, args, _⟩ => match veval fr f with
    | .yld l' => l' = l ∧ s.stop = false ∧ (∃ row, xs[s.k]? = some row ∧ stripTL (args.toList.map (veval fr)) = some row) ∧ K (.b true) ⟨s.k + 1, false⟩ ∧ K (.b false) ⟨s.k, true⟩
    | .fn F caps => vcall P St0 0 F (args.toList.map (veval fr) ++ caps) fun v σ' => σ' = St0 ∧ K v s
    | _ => False
  | _ => match vop τ (fun _ => false) fr St0 o with
    | some (v, σ') => σ' = St0 ∧ K v s
    | none => False

def iops (ops : Array Oper) : List Oper → (Nat → V) → It → ((Nat → V) → It → Prop) → Prop
  | [], fr, s, K => K fr s
  | o :: rest, fr, s, K => match wantedV ops fr o with
    | some true => istep P τ l xs o fr s fun v s' => vput nt o v fr fun fr' => iops ops rest fr' s' K
    | some false => vput nt o (.tup []) fr fun fr' => iops ops rest fr' s K
    | none => False

def iwp : Code → (Nat → V) → It → (Exit → (Nat → V) → It → Prop) → Prop
  | .skip, fr, s, Q => Q .normal fr s
  | .region _ ops draw, fr, s, Q => if draw = true then okD (fun _ => 0) ops = true ∧ vops P τ (fun _ => 0) nt ops false ops.toList fr St0 (fun fr' σ' => σ' = St0 ∧ Q .normal fr' s) else iops P τ nt l xs ops ops.toList fr s (Q .normal)
  | .seq x y, fr, s, Q => iwp x fr s fun e fr s => match e with
    | .normal => iwp y fr s Q
    | e => Q e fr s
  | .cond c x y, fr, s, Q => match veval fr c with
    | .b t => if t = true then iwp x fr s Q else iwp y fr s Q
    | _ => False
  | .block id x, fr, s, Q => iwp x fr s fun e fr s => match e with
    | .exit id' => if id' = id then Q .normal fr s else Q (.exit id') fr s
    | e => Q e fr s
  | .loop x, fr, s, Q => ∃ (I : Nat → (Nat → V) → It → Prop), (∃ m, I m fr s) ∧ ∀ m fr s, I m fr s → iwp x fr s fun e fr s => match e with
    | .normal => ∃ m', m' < m ∧ I m' fr s
    | e => Q e fr s
  | .exit id, fr, s, Q => Q (.exit id) fr s
  | .ret, fr, s, Q => Q .ret fr s
  | _, _, _, _ => False
end

def CI (T : Addr → Prop) (W : World) : Cx := ⟨W, fun _ => .none, T⟩
theorem CI_S {T : Addr → Prop} {W : World} {p : Addr} : (CI T W).S p ↔ T p := ⟨fun h => h.1, fun h => ⟨h, fun o g h => (by cases h), fun t x n cap e sz h => (by cases h)⟩⟩
theorem CI_st {T : Addr → Prop} {W : World} (h : ∀ p : Addr, W.heap.size ≤ p.block → T p) (hG : GOk W T) : StRel (CI T W) St0 :=
  ⟨h, fun o h => absurd rfl h, fun o cs h => (by cases h), fun t e h => (by cases h), fun o g h => (by cases h), fun t a n cap e sz h => (by cases h), fun o o' g h => (by cases h), fun o g h => (by cases h), fun o g h => (by cases h), fun g cs hg => .pure _ _ ((hG g cs hg).mono fun p x hp hx => ⟨CI_S.2 hp, hx⟩)⟩
theorem CI_of {T : Addr → Prop} {W : World} {C : Cx} (hx : Ext' (CI T W) C) (hσ : StRel C St0) : C = CI T C.w ∧ Below W.heap.size W C.w := by
  have hm : C.m = fun _ => .none := by
    funext o
    cases hmo : C.m o with
    | none => rfl
    | _ => exact absurd (hσ.id o (by rw [hmo]; simp)) (Nat.not_lt_zero _)
  have hE : C.E = T := hx.E
  refine ⟨?_, ⟨hx.os, hx.tape, hx.output, hx.size, fun k hk => hx.blk k hk fun o ho => (by cases ho)⟩⟩
  obtain ⟨w, m, e⟩ := C
  simp only at hm hE
  subst hm; subst hE
  rfl

section
variable {P : Program} {τ : TypeId → Option TyD} {nt : Nat} {l : Nat} {xs : List (List V)} {J : Nat → (Addr → Prop) → World → Prop} {Jx : (Addr → Prop) → World → Prop}

def IS (J : Nat → (Addr → Prop) → World → Prop) (Jx : (Addr → Prop) → World → Prop) (s : It) (T : Addr → Prop) (W : World) : Prop := GOk W T ∧ ∃ A, Below A.heap.size A W ∧ (if s.stop = true then Jx T A else J s.k T A)
theorem IS.grow {s : It} {T : Addr → Prop} {W W' : World} (h : IS J Jx s T W) (hb : Below W.heap.size W W') : IS J Jx s T W' := by
  obtain ⟨g, A, h1, h2⟩ := h
  exact ⟨g.mono fun p x hp hx => ⟨hp, (hb.cell (World.block_lt_of_cell? _ _ hx)).trans hx⟩, A, h1.trans (hb.mono h1.size), h2⟩

/-- What the caller of the function promises. -/
def Gives (P : Program) (l : Nat) (xs : List (List V)) (J : Nat → (Addr → Prop) → World → Prop) (Jx : (Addr → Prop) → World → Prop) : Prop :=
  ∀ k T A B (vs : Array Value) x, xs[k]? = some x → J k T A → Below A.heap.size A B → x.length = vs.size → (∀ (j : Nat) v c, x[j]? = some v → vs[j]? = some c → PRel B T v c) →
    YieldAt (Fr none) 0 P l vs B fun e W' => ∃ T', (∀ p x, T p → B.cell? p = some x → T' p ∧ W'.cell? p = some x) ∧ (∀ p : Addr, W'.heap.size ≤ p.block → T' p) ∧ ((e = .returned (.bool true) ∧ J (k + 1) T' W') ∨ (e = .returned (.bool false) ∧ Jx T' W'))

theorem yield_run {o : Oper} {f : Operand} {args : Array Operand} {ts : Array TypeId} (ho : o.op = .call ⟨.value f, args, ts⟩) {a : Act} (hf : a.eval f = .func (.yield l) #[] #[]) {w : World} {fn : FuncId} {tmps : Array Value} {x y : Code} (hy : (Instr.yield l (args.map a.eval)).run P w = .ok (.round l fn tmps x y) w) :
    (o.semAt (Fr none).round a.eval).run P w = .ok (.round l fn tmps x y) w := by
  rw [Oper.semAt_eq _ _ _ (by rw [ho]; intro c h; cases h)]
  simp only [execOp, ho, resolve, hf, Deferred.ofValue, Sem.run_bind, Sem.run_pure, Result.andThen_ok, invoke, Array.empty_append, Array.append_empty]
  exact hy

theorem istep_ok (hτ : TyOk P τ) (hG : Gives P l xs J Jx) {T : Addr → Prop} {W : World} (hT : ∀ p : Addr, W.heap.size ≤ p.block → T p) {s : It} (hs : IS J Jx s T W) {fr : Nat → V} {a : Act} (hf : FrRel (CI T W) fr a) {o : Oper} {K : V → It → Prop} (h : istep P τ l xs o fr s K)
    {next : Act → World → Prop} {Q : Exit → Act → World → Prop}
    (hK : ∀ T' W' s' v c, (∀ p : Addr, W'.heap.size ≤ p.block → T' p) → IS J Jx s' T' W' → FrRel (CI T' W') fr a → VRel (CI T' W') v c → K v s' → next (a.put o.dst c) W') : o.wpIn (Fr none) 0 P a W next Q := by
  have plain : vstep P τ (fun _ => 0) false o fr St0 (fun v σ' => σ' = St0 ∧ K v s) → o.wpIn (Fr none) 0 P a W next Q := fun h => by
    refine vstep_ok (C := CI T W) hτ (CI_st hT hs.1) hf h fun C' σ' v c x1 x2 x3 x4 => ?_
    obtain ⟨rfl, x4⟩ := x4
    obtain ⟨e, hb⟩ := CI_of x1 x2
    refine hK T C'.w s v c (fun p hp => hT p (Nat.le_trans hb.size hp)) (hs.grow hb) ?_ ?_ x4
    · rw [← e]; exact hf.mono x1.toExt
    · rw [← e]; exact x3
  unfold istep at h
  split at h
  · rename_i f args ts ho
    split at h
    · rename_i l' hfv
      obtain ⟨rfl, hst, ⟨row, hrow, hstr⟩, hk1, hk2⟩ := h
      have hfr := veval_rel (CI_st hT hs.1) hf f
      rw [hfv] at hfr
      have hfe : a.eval f = .func (.yield l') #[] #[] := by
        generalize a.eval f = cf at hfr
        cases hfr with
        | pure _ _ h => cases h; rfl
      obtain ⟨p1, p2⟩ := args_rel (CI_st hT hs.1) hf args
      obtain ⟨q1, q2⟩ := stripTL_ok hstr
      obtain ⟨hg0, A, hbA, hJA⟩ := hs
      rw [if_neg (by rw [hst]; simp)] at hJA
      have hy := hG s.k T A W (args.map a.eval) row hrow hJA hbA (by rw [q1]; simp) fun j v c hv hc => by
        obtain ⟨u, hu, hsu⟩ := q2 j v hv
        exact (strip0_ok (p2 j u c hu hc) hsu).mono fun p x hp hx => ⟨CI_S.1 hp, hx⟩
      obtain ⟨fn, tmps, x, y, hrun, hround⟩ := hy
      refine ⟨fun _ _ => trivial, ?_⟩
      rw [yield_run ho hfe hrun, Oper.uponIn_round]
      refine ⟨fun h => (by cases h), hround.mono ?_⟩
      rintro e W' ⟨T', h1, h2, (⟨rfl, h3⟩ | ⟨rfl, h3⟩)⟩
      · exact hK T' W' ⟨s.k + 1, false⟩ (.b true) _ h2 ⟨hg0.mono h1, W', Below.refl _ _, h3⟩ (fun t => (hf t).mono0 (fun p x hp hx => ⟨CI_S.2 (h1 p x (CI_S.1 hp) hx).1, (h1 p x (CI_S.1 hp) hx).2⟩) fun o ho => absurd rfl ho) (.pure _ _ (.b true)) hk1
      · exact hK T' W' ⟨s.k, true⟩ (.b false) _ h2 ⟨hg0.mono h1, W', Below.refl _ _, h3⟩ (fun t => (hf t).mono0 (fun p x hp hx => ⟨CI_S.2 (h1 p x (CI_S.1 hp) hx).1, (h1 p x (CI_S.1 hp) hx).2⟩) fun o ho => absurd rfl ho) (.pure _ _ (.b false)) hk2
    · rename_i F caps hfv
      refine plain ?_
      unfold vstep
      simp only [ho, hfv]
      refine .inl ?_
      have : hintOf (fun _ => 0) o = 0 := by unfold hintOf; split <;> rfl
      rw [this]
      exact h
    · exact h.elim
  · rename_i hne
    refine plain ?_
    unfold vstep
    split
    · rename_i f args ts ho
      exact absurd ho (hne f args ts)
    · exact h

theorem iops_ok (hτ : TyOk P τ) (hG : Gives P l xs J Jx) {ops : Array Oper} {K : (Nat → V) → It → Prop} {Q : Exit → Act → World → Prop} : ∀ (r : List Oper) (k : Nat) (fr : Nat → V) (s : It) (T : Addr → Prop) (W : World) (a : Act), ops.toList.drop k = r → (∀ p : Addr, W.heap.size ≤ p.block → T p) → IS J Jx s T W → FrRel (CI T W) fr a → nt ≤ a.tmps.size →
    iops P τ nt l xs ops r fr s K → (∀ T' W' fr' s' a', (∀ p : Addr, W'.heap.size ≤ p.block → T' p) → IS J Jx s' T' W' → FrRel (CI T' W') fr' a' → nt ≤ a'.tmps.size → a'.defers = a.defers → K fr' s' → Q .normal a' W') → wpOpsIn (Fr none) 0 P ops Q (List.range' k r.length) a W
  | [], k, fr, s, T, W, a, _, hT, hs, hf, hn, h, hQ => hQ T W fr s a hT hs hf hn rfl h
  | o :: r, k, fr, s, T, W, a, hd, hT, hs, hf, hn, h, hQ => by
    have hok : ops[k]? = some o := by
      have : (ops.toList.drop k)[0]? = some o := by rw [hd]; rfl
      rw [List.getElem?_drop] at this
      simpa using this
    have hd' : ops.toList.drop (k + 1) = r := by
      have : (ops.toList.drop k).drop 1 = r := by rw [hd]; rfl
      rw [List.drop_drop] at this
      exact this
    simp only [List.length_cons, List.range'_succ, wpOpsIn, hok]
    simp only [iops] at h
    split at h <;> first | exact h.elim | skip
    · rename_i hw
      rw [wanted_ok hf hw, if_pos rfl]
      refine istep_ok hτ hG hT hs hf h fun T' W' s' v c x1 x2 x3 x4 x5 => ?_
      obtain ⟨fr', y1, y2, y3, y4⟩ := vput_ok x3 hn x4 x5
      exact iops_ok hτ hG r (k + 1) fr' s' T' W' _ hd' x1 x2 y2 y3 y1 fun T'' W'' fr'' s'' a'' z1 z2 z3 z4 z5 z6 => hQ T'' W'' fr'' s'' a'' z1 z2 z3 z4 (z5.trans y4) z6
    · rename_i hw
      rw [wanted_ok hf hw, if_neg (by simp)]
      refine ⟨fun _ _ => trivial, ?_⟩
      obtain ⟨fr', y1, y2, y3, y4⟩ := vput_ok hf hn (skip_rel _) h
      exact iops_ok hτ hG r (k + 1) fr' s T W _ hd' hT hs y2 y3 y1 fun T'' W'' fr'' s'' a'' z1 z2 z3 z4 z5 z6 => hQ T'' W'' fr'' s'' a'' z1 z2 z3 z4 (z5.trans y4) z6

def IPost (nt : Nat) (J : Nat → (Addr → Prop) → World → Prop) (Jx : (Addr → Prop) → World → Prop) (ds : List Deferred) (Q : Exit → (Nat → V) → It → Prop) : Exit → Act → World → Prop := fun e a W =>
  ∃ T fr s, (∀ p : Addr, W.heap.size ≤ p.block → T p) ∧ IS J Jx s T W ∧ FrRel (CI T W) fr a ∧ nt ≤ a.tmps.size ∧ a.defers = ds ∧ Q e fr s

theorem iwp_ok (hτ : TyOk P τ) (hm : P.follows .mixedOrders = true) (hG : Gives P l xs J Jx) : ∀ (c : Code) (fr : Nat → V) (s : It) (Q : Exit → (Nat → V) → It → Prop) (T : Addr → Prop) (W : World) (a : Act), (∀ p : Addr, W.heap.size ≤ p.block → T p) → IS J Jx s T W → FrRel (CI T W) fr a → nt ≤ a.tmps.size →
    iwp P τ nt l xs c fr s Q → c.wpIn (Fr none) 0 P (IPost nt J Jx a.defers Q) a W
  | .skip, fr, s, Q, T, W, a, hT, hs, hf, hn, h => wpIn_skip ⟨T, fr, s, hT, hs, hf, hn, rfl, h⟩
  | .exit id, fr, s, Q, T, W, a, hT, hs, hf, hn, h => wpIn_exit ⟨T, fr, s, hT, hs, hf, hn, rfl, h⟩
  | .ret, fr, s, Q, T, W, a, hT, hs, hf, hn, h => wpIn_ret ⟨T, fr, s, hT, hs, hf, hn, rfl, h⟩
  | .region id ops draw, fr, s, Q, T, W, a, hT, hs, hf, hn, h => by
    cases draw with
    | false =>
      refine wpIn_region ?_
      have := iops_ok (Q := IPost nt J Jx a.defers Q) hτ hG ops.toList 0 fr s T W a rfl hT hs hf hn (by simpa [iwp] using h) (fun T' W' fr' s' a' x1 x2 x3 x4 x5 x6 => ⟨T', fr', s', x1, x2, x3, x4, x5, x6⟩)
      rw [List.range_eq_range']
      simpa using this
    | true =>
      simp only [iwp, if_true] at h
      refine wpIn_region_any hm ?_
      refine draw_ok (C := CI T W) (hint := fun _ => 0) hτ h.1 (CI_st hT hs.1) hf hn (vops_mono (fun _ _ h => ⟨.inl rfl, h⟩) _ _ _ h.2) fun C' fr' σ' a' x1 x2 x3 x4 x5 x6 => ?_
      obtain ⟨rfl, x6⟩ := x6
      obtain ⟨e, hb⟩ := CI_of x1 x2
      exact ⟨T, fr', s, fun p hp => hT p (Nat.le_trans hb.size hp), hs.grow hb, by rw [← e]; exact x3, x4, x5, x6⟩
  | .seq x y, fr, s, Q, T, W, a, hT, hs, hf, hn, h => by
    refine wpIn_seq (wpIn_mono (iwp_ok hτ hm hG x fr s _ T W a hT hs hf hn h) ?_)
    rintro e a' w' hp
    cases e with
    | normal =>
      obtain ⟨T', fr', s', x1, x2, x3, x4, x5, x6⟩ := hp
      have := iwp_ok hτ hm hG y fr' s' Q T' w' a' x1 x2 x3 x4 x6
      rw [x5] at this
      exact this
    | exit id => exact hp
    | goto id => exact hp
    | ret => exact hp
    | panic ch => exact hp
    | outgrown => exact hp
  | .cond c x y, fr, s, Q, T, W, a, hT, hs, hf, hn, h => by
    simp only [iwp] at h
    split at h <;> first | exact h.elim | skip
    rename_i t ht
    have hc := veval_rel (CI_st hT hs.1) hf c
    rw [ht] at hc
    refine wpIn_cond hc.inv_b ?_
    cases t with
    | true => exact iwp_ok hτ hm hG x fr s Q T W a hT hs hf hn (by simpa using h)
    | false => exact iwp_ok hτ hm hG y fr s Q T W a hT hs hf hn (by simpa using h)
  | .block id x, fr, s, Q, T, W, a, hT, hs, hf, hn, h => by
    refine wpIn_block (wpIn_mono (iwp_ok hτ hm hG x fr s _ T W a hT hs hf hn h) ?_)
    rintro e a' w' hp
    cases e with
    | exit id' =>
      obtain ⟨T', fr', s', x1, x2, x3, x4, x5, x6⟩ := hp
      simp only [Exit.inBlock]
      split
      · rename_i he
        simp only [he, if_true] at x6
        exact ⟨T', fr', s', x1, x2, x3, x4, x5, x6⟩
      · rename_i he
        simp only [he, if_false] at x6
        exact ⟨T', fr', s', x1, x2, x3, x4, x5, x6⟩
    | normal => exact hp
    | goto id => exact hp
    | ret => exact hp
    | panic ch => exact hp
    | outgrown => exact hp
  | .loop x, fr, s, Q, T, W, a, hT, hs, hf, hn, h => by
    obtain ⟨I, ⟨m, hI⟩, hround⟩ := h
    refine wpIn_loopN (fun m a' w' => IPost nt J Jx a.defers (fun _ fr s => I m fr s) .normal a' w') ⟨m, T, fr, s, hT, hs, hf, hn, rfl, hI⟩ ?_
    rintro m a' w' ⟨T', fr', s', x1, x2, x3, x4, x5, x6⟩
    refine wpIn_mono (iwp_ok hτ hm hG x fr' s' _ T' w' a' x1 x2 x3 x4 (hround m fr' s' x6)) ?_
    rintro e a'' w'' hp
    rw [x5] at hp
    cases e with
    | normal =>
      obtain ⟨T'', fr'', s'', y1, y2, y3, y4, y5, m', hlt, hI'⟩ := hp
      exact ⟨m', hlt, T'', fr'', s'', y1, y2, y3, y4, y5, hI'⟩
    | exit id => exact hp
    | goto id => exact hp
    | ret => exact hp
    | panic ch => exact hp
    | outgrown => exact hp
  | .rangeFunc .., _, _, _, _, _, _, _, _, _, _, h => h.elim
  | .scope _, _, _, _, _, _, _, _, _, _, _, h => h.elim
  | .label _, _, _, _, _, _, _, _, _, _, _, h => h.elim
  | .goto _, _, _, _, _, _, _, _, _, _, _, h => h.elim
  | .refuse _, _, _, _, _, _, _, _, _, _, _, h => h.elim

/-- The end of a function that hands out rows. -/
def iret (xs : List (List V)) : Exit → (Nat → V) → It → Prop := fun e _ s => match e with
  | .normal => s.stop = true ∨ s.k = xs.length
  | .ret => s.stop = true ∨ s.k = xs.length
  | _ => False

theorem iter_of_body (hτ : TyOk P τ) (hm : P.follows .mixedOrders = true) {F : FuncId} {fn : Func} {c : Code} (hf : P.funcs[F]? = some fn) (hb : fn.body = some c) (hname : (fn.name == "runtime.NumGoroutine") = false) (hres : fn.results = #[]) {caps : List V}
    (h : ∀ l, iwp P τ fn.ntmps l xs c (initFr (.yld l :: caps)) ⟨0, false⟩ (iret xs)) : VIter P F caps xs := by
  refine ⟨enters_of hf hname (by rw [hb]; rfl), fun w S ccaps hGw hl hr l J Jx hJT hG T0 W0 hS0 h0 => ?_⟩
  refine callsIn_of_wp hf hb trivial ?_
  have hfr : FrRel (CI T0 W0) (initFr (.yld l :: caps)) { tmps := (#[Value.func (.yield l) #[] #[]] ++ ccaps) ++ Array.replicate (fn.ntmps - (#[Value.func (.yield l) #[] #[]] ++ ccaps).size) undef, defers := [] } := by
    intro t
    unfold initFr
    have hsz : (#[Value.func (.yield l) #[] #[]] ++ ccaps).size = ccaps.size + 1 := by simp; omega
    cases ht : (V.yld l :: caps)[t]? with
    | none => exact .undef _
    | some v =>
      have hlt : t < ccaps.size + 1 := by
        have := (List.getElem?_eq_some_iff.1 ht).1
        simp only [List.length_cons] at this
        omega
      simp only [Option.getD_some]
      rw [Array.getD_eq_getD_getElem?, Array.getElem?_append_left (by rw [hsz]; exact hlt)]
      cases t with
      | zero =>
        simp only [List.getElem?_cons_zero, Option.some.injEq] at ht
        subst ht
        rw [Array.getElem?_append_left (by simp)]
        exact .pure _ _ (.yld l)
      | succ t =>
        have hv : caps[t]? = some v := by simpa using ht
        rw [Array.getElem?_append_right (by simp)]
        have hc : ccaps[t]? = some ccaps[t] := Array.getElem?_eq_getElem (by omega)
        simp only [List.size_toArray, List.length_cons, List.length_nil, Nat.zero_add, Nat.add_sub_cancel, hc, Option.getD_some]
        exact .pure _ _ ((hr t v _ hv hc).mono fun p x hp hx => ⟨CI_S.2 (hS0 p x hp hx).1, (hS0 p x hp hx).2⟩)
  refine wpIn_mono (iwp_ok hτ hm hG c _ ⟨0, false⟩ _ T0 W0 _ (hJT 0 T0 W0 h0) ⟨hGw.mono hS0, W0, Below.refl _ _, by simpa using h0⟩ hfr (by simp; omega) (h l)) ?_
  rintro e a' w' ⟨T, fr, s, x1, x2, x3, x4, x5, x6⟩
  have fin : (s.stop = true ∨ s.k = xs.length) → a'.defers = [] ∧ ∃ v, (results fn a'.tmps).run P w' = .ok v w' ∧ (∃ u, Ending.returned v = .returned u) ∧ ((∃ T A, J xs.length T A ∧ Below A.heap.size A w') ∨ ∃ T A, Jx T A ∧ Below A.heap.size A w') := fun hq => by
    refine ⟨x5, .tuple #[], by unfold results; rw [hres]; simp, ⟨_, rfl⟩, ?_⟩
    obtain ⟨_, A, hA, hJ⟩ := x2
    cases hst : s.stop with
    | true =>
      rw [hst, if_pos rfl] at hJ
      exact .inr ⟨T, A, hJ, hA⟩
    | false =>
      rw [hst, if_neg (by simp)] at hJ
      rcases hq with hq | hq
      · rw [hst] at hq; cases hq
      · rw [hq] at hJ
        exact .inl ⟨T, A, hJ, hA⟩
  cases e with
  | normal => exact fin x6
  | ret => exact fin x6
  | exit id => exact x6.elim
  | goto id => exact x6.elim
  | panic ch => exact x6.elim
  | outgrown => exact x6.elim

theorem vput_mono {o : Oper} {v : V} {fr : Nat → V} {A B : (Nat → V) → Prop} (hab : ∀ fr, A fr → B fr) (h : vput nt o v fr A) : vput nt o v fr B := by
  unfold vput at h ⊢
  split
  · rename_i d hd
    simp only [hd] at h
    split at h
    · rename_i hlt; rw [if_pos hlt]; exact hab _ h
    · exact h.elim
  · rename_i hd
    simp only [hd] at h
    exact hab _ h
theorem istep_mono {o : Oper} {fr : Nat → V} {s : It} {K K' : V → It → Prop} (hk : ∀ v s, K v s → K' v s) (h : istep P τ l xs o fr s K) : istep P τ l xs o fr s K' := by
  unfold istep at h ⊢
  split at h
  · split at h
    · exact ⟨h.1, h.2.1, h.2.2.1, hk _ _ h.2.2.2.1, hk _ _ h.2.2.2.2⟩
    · unfold vcall at h ⊢
      split at h
      · obtain ⟨r, h1, h2, h3, h4⟩ := h
        exact ⟨r, h1, h2, h3, hk _ _ h4⟩
      · exact h.elim
    · exact h.elim
  · split at h
    · exact ⟨h.1, hk _ _ h.2⟩
    · exact h.elim
theorem iops_mono {ops : Array Oper} {K K' : (Nat → V) → It → Prop} (hk : ∀ fr s, K fr s → K' fr s) : ∀ (r : List Oper) (fr : Nat → V) (s : It), iops P τ nt l xs ops r fr s K → iops P τ nt l xs ops r fr s K'
  | [], fr, s, h => hk _ _ h
  | o :: r, fr, s, h => by
    simp only [iops] at h ⊢
    cases hw : wantedV ops fr o with
    | none => rw [hw] at h; exact h
    | some b =>
      rw [hw] at h
      cases b with
      | false => exact vput_mono (fun fr h => iops_mono hk r fr s h) h
      | true => exact istep_mono (fun v s h => vput_mono (fun fr h => iops_mono hk r fr s h) h) h
theorem iwp_mono {Q Q' : Exit → (Nat → V) → It → Prop} (hq : ∀ e fr s, Q e fr s → Q' e fr s) : ∀ (c : Code) (fr : Nat → V) (s : It), iwp P τ nt l xs c fr s Q → iwp P τ nt l xs c fr s Q' := by
  intro c
  induction c generalizing Q Q' with
  | skip => exact fun fr s h => hq _ _ _ h
  | exit id => exact fun fr s h => hq _ _ _ h
  | ret => exact fun fr s h => hq _ _ _ h
  | region id ops draw =>
    intro fr s h
    simp only [iwp] at h ⊢
    split at h
    · rename_i hd
      rw [if_pos hd]
      exact ⟨h.1, vops_mono (fun fr σ h => ⟨h.1, hq _ _ _ h.2⟩) _ _ _ h.2⟩
    · rename_i hd
      rw [if_neg hd]
      exact iops_mono (fun fr s h => hq _ _ _ h) _ _ _ h
  | seq x y ihx ihy =>
    intro fr s h
    refine ihx ?_ fr s h
    intro e fr s h
    cases e with
    | normal => exact ihy hq fr s h
    | _ => exact hq _ _ _ h
  | cond c x y ihx ihy =>
    intro fr s h
    simp only [iwp] at h ⊢
    split at h
    · rename_i t ht
      split at h
      · rename_i hh; rw [if_pos hh]; exact ihx hq fr s h
      · rename_i hh; rw [if_neg hh]; exact ihy hq fr s h
    · exact h.elim
  | block id x ih =>
    intro fr s h
    refine ih ?_ fr s h
    intro e fr s h
    cases e with
    | exit id' =>
      simp only at h ⊢
      split at h
      · rename_i hh; rw [if_pos hh]; exact hq _ _ _ h
      · rename_i hh; rw [if_neg hh]; exact hq _ _ _ h
    | _ => exact hq _ _ _ h
  | loop x ih =>
    rintro fr s ⟨I, h0, hs⟩
    refine ⟨I, h0, fun m fr s hI => ih ?_ fr s (hs m fr s hI)⟩
    intro e fr s h
    cases e with
    | normal => exact h
    | _ => exact hq _ _ _ h
  | _ => exact fun fr s h => h

/-- A loop whose rounds are numbered. -/
theorem iloop {x : Code} {fr : Nat → V} {s : It} {Q : Exit → (Nat → V) → It → Prop} (n : Nat) (I : Nat → (Nat → V) → It → Prop) (h0 : I 0 fr s)
    (hs : ∀ k fr s, k ≤ n → I k fr s → iwp P τ nt l xs x fr s fun e fr s => match e with
      | .normal => k < n ∧ I (k + 1) fr s
      | e => Q e fr s) : iwp P τ nt l xs (.loop x) fr s Q := by
  refine ⟨fun m fr s => ∃ k, k ≤ n ∧ m = n - k ∧ I k fr s, ⟨n, 0, Nat.zero_le _, rfl, h0⟩, ?_⟩
  rintro m fr s ⟨k, hk, rfl, hI⟩
  refine iwp_mono ?_ _ _ _ (hs k fr s hk hI)
  intro e fr s h
  cases e with
  | normal => exact ⟨n - (k + 1), by omega, k + 1, by omega, rfl, h.2⟩
  | _ => exact h

/-! ### The same, in words that stop -/
def ziw (P : Program) (τ : TypeId → Option TyD) (nt : Nat) (l : Nat) (xs : List (List V)) (c : Code) (fr : Nat → V) (s : It) (Q : Exit → (Nat → V) → It → Prop) (_ : Dep (c, Q)) : Prop := iwp P τ nt l xs c fr s Q
def ziops (P : Program) (τ : TypeId → Option TyD) (nt : Nat) (l : Nat) (xs : List (List V)) (ops : Array Oper) (r : List Oper) (fr : Nat → V) (s : It) (K : (Nat → V) → It → Prop) (_ : Dep (ops, r, K)) : Prop := iops P τ nt l xs ops r fr s K
def zistep (P : Program) (τ : TypeId → Option TyD) (l : Nat) (xs : List (List V)) (o : Oper) (fr : Nat → V) (s : It) (K : V → It → Prop) (_ : Dep (o, K)) : Prop := istep P τ l xs o fr s K
def zyfn (P : Program) (l : Nat) (xs : List (List V)) (f : V) (vals : List V) (s : It) (K : V → It → Prop) (_ : Dep K) : Prop := match f with
  | .yld l' => l' = l ∧ s.stop = false ∧ (∃ row, xs[s.k]? = some row ∧ stripTL vals = some row) ∧ K (.b true) ⟨s.k + 1, false⟩ ∧ K (.b false) ⟨s.k, true⟩
  | .fn F caps => zcall P false F 0 St0 (vargs St0 (vals ++ caps)) (vals ++ caps) (fun v σ' => σ' = St0 ∧ K v s) .mk
  | _ => False
theorem zyfn_yld {vals : List V} {s : It} {K : V → It → Prop} {d : Dep K} : zyfn P l xs (.yld l) vals s K d = (s.stop = false ∧ (∃ row, xs[s.k]? = some row ∧ stripTL vals = some row) ∧ K (.b true) ⟨s.k + 1, false⟩ ∧ K (.b false) ⟨s.k, true⟩) := by
  simp [zyfn]
theorem zyfn_fn {F : FuncId} {caps vals : List V} {s : It} {K : V → It → Prop} {d : Dep K} : zyfn P l xs (.fn F caps) vals s K d = zcall P false F 0 St0 (vargs St0 (vals ++ caps)) (vals ++ caps) (fun v σ' => σ' = St0 ∧ K v s) .mk := propext Iff.rfl
theorem St0_eq : ((⟨fun _ => none, 0⟩ : St) = St0) = True := eq_true rfl
theorem zistep_eq {o : Oper} {fr : Nat → V} {s : It} {K : V → It → Prop} {d : Dep (o, K)} : zistep P τ l xs o fr s K d = match o.op with
    | .call ⟨.value f, args, _⟩ => zyfn P l xs (veval fr f) (args.toList.map (veval fr)) s K .mk
    | _ => zthen (vop τ (fun _ => false) fr St0 o) (fun v σ' => σ' = St0 ∧ K v s) .mk := by
  unfold zistep istep
  split
  · unfold zyfn
    split
    · rfl
    · unfold vcall zcall
      generalize vargs St0 _ = va
      rcases va with _ | ⟨us, b⟩ <;> simp
    · rfl
  · rfl
theorem ziops_nil {ops : Array Oper} {fr : Nat → V} {s : It} {K : (Nat → V) → It → Prop} {d : Dep (ops, [], K)} : ziops P τ nt l xs ops [] fr s K d = K fr s := propext Iff.rfl
theorem ziops_cons {ops : Array Oper} {o : Oper} {r : List Oper} {fr : Nat → V} {s : It} {K : (Nat → V) → It → Prop} {d : Dep (ops, o :: r, K)} : ziops P τ nt l xs ops (o :: r) fr s K d =
    zwant (wantedV ops fr o) (zistep P τ l xs o fr s (fun v s' => zput nt o.dst v fr (fun fr' => ziops P τ nt l xs ops r fr' s' K .mk) .mk) .mk) (zput nt o.dst (.tup []) fr (fun fr' => ziops P τ nt l xs ops r fr' s K .mk) .mk) .mk := by
  simp only [ziops, iops, zwant]
  cases wantedV ops fr o with
  | none => rfl
  | some b => cases b <;> rfl
section
variable {fr : Nat → V} {s : It} {Q : Exit → (Nat → V) → It → Prop}
theorem iret_n : iret xs .normal fr s = (s.stop = true ∨ s.k = xs.length) := propext Iff.rfl
theorem iret_r : iret xs .ret fr s = (s.stop = true ∨ s.k = xs.length) := propext Iff.rfl
theorem ziwin {c : Code} (h : ziw P τ nt l xs c fr s Q .mk) : iwp P τ nt l xs c fr s Q := h
theorem ziw_skip {d : Dep (Code.skip, Q)} : ziw P τ nt l xs .skip fr s Q d = Q .normal fr s := propext Iff.rfl
theorem ziw_f {i : Nat} {r : List Oper} {d : Dep (Code.region i (List.toArray r) false, Q)} : ziw P τ nt l xs (.region i (List.toArray r) false) fr s Q d = ziops P τ nt l xs (List.toArray r) r fr s (Q .normal) .mk := by
  simp [ziw, iwp, ziops]
theorem ziw_t {i : Nat} {r : List Oper} {d : Dep (Code.region i (List.toArray r) true, Q)} : ziw P τ nt l xs (.region i (List.toArray r) true) fr s Q d = (okD (fun _ => 0) (List.toArray r) = true ∧ zops P τ (fun _ => 0) nt (List.toArray r) false r fr St0 (fun fr' σ' => σ' = St0 ∧ Q .normal fr' s) .mk) := by
  simp [ziw, iwp, zops]
theorem ziw_seq {x y : Code} {d : Dep (Code.seq x y, Q)} : ziw P τ nt l xs (.seq x y) fr s Q d = ziw P τ nt l xs x fr s (fun e fr s => match e with
    | .normal => ziw P τ nt l xs y fr s Q .mk
    | e => Q e fr s) .mk := propext Iff.rfl
theorem ziw_cond {c : Operand} {x y : Code} {d : Dep (Code.cond c x y, Q)} : ziw P τ nt l xs (.cond c x y) fr s Q d = zcond (veval fr c) (ziw P τ nt l xs x fr s Q .mk) (ziw P τ nt l xs y fr s Q .mk) .mk := propext Iff.rfl
theorem ziw_block {i : Nat} {x : Code} {d : Dep (Code.block i x, Q)} : ziw P τ nt l xs (.block i x) fr s Q d = ziw P τ nt l xs x fr s (fun e fr s => match e with
    | .exit id' => if id' = i then Q .normal fr s else Q (.exit id') fr s
    | e => Q e fr s) .mk := propext Iff.rfl
theorem ziw_exit {i : Nat} {d : Dep (Code.exit i, Q)} : ziw P τ nt l xs (.exit i) fr s Q d = Q (.exit i) fr s := propext Iff.rfl
theorem ziw_ret {d : Dep (Code.ret, Q)} : ziw P τ nt l xs .ret fr s Q d = Q .ret fr s := propext Iff.rfl
theorem ziloop {x : Code} {d : Dep (Code.loop x, Q)} (n : Nat) (I : Nat → (Nat → V) → It → Prop) (h0 : I 0 fr s)
    (hs : ∀ k fr s, k ≤ n → I k fr s → ziw P τ nt l xs x fr s (fun e fr s => match e with
      | .normal => k < n ∧ I (k + 1) fr s
      | e => Q e fr s) .mk) : ziw P τ nt l xs (.loop x) fr s Q d := iloop n I h0 hs
end
end
end Go.Vx
