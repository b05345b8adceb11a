/- A region that draws its order: in whatever order. -/
import Derived.Test.YtlcdehedojkgoaaDoorV13
namespace Go.Vx
open Go.RowKit Go.Fl
set_option linter.unusedVariables false
set_option linter.unusedSimpArgs false
set_option linter.unusedSectionVars false

/-- What an operation has to do with memory: 0: nothing; 1: it reads; 2: it turns what is known; 3: it makes something new. -/
def kd (hint : Nat → Nat) (o : Oper) : Nat :=
  match o.op with
  | .alloc _ => 3
  | .box .. => 2
  | .store .. => 2
  | .makeSlice .. => if hintOf hint o = 2 then 2 else 0
  | .load .. => 1
  | .call ⟨.builtin .append, _, _⟩ => 2
  | .call ⟨.builtin .copy, _, _⟩ => 2
  | .call ⟨.value _, _, _⟩ => if hintOf hint o = 0 then 1 else 2
  | _ => 0

def tmpsOf (l : List Operand) : List Nat := l.filterMap fun | .tmp t => some t | _ => none
def looks (ops : Array Oper) (o : Oper) : List Nat :=
  tmpsOf o.op.operands.toList ++ (match o.guard with
    | some (j, _) => ((ops[j]?).bind (·.dst)).toList
    | none => [])

/-- A load whose slot has hint 4: it reads the same before the region's one store and behind it, and so may come at either side of it. -/
def free (hint : Nat → Nat) (o : Oper) : Bool :=
  match o.op, o.dst with
  | .load .., some d => hint 100000 != 0 && hint d == 4
  | _, _ => false

def depD (hint : Nat → Nat) (ops : Array Oper) (a b : Oper) : Bool :=
  (match a.dst with | some d => (looks ops b).contains d || b.dst == some d | none => false) || (match b.dst with | some d => (looks ops a).contains d | none => false) ||
  ((kd hint a == 2 && kd hint b != 0 && !free hint b) || (kd hint b == 2 && kd hint a != 0 && !free hint a) || (kd hint a == 3 && kd hint b == 3))

/-- Where there are such loads: what they read by is written no more, and there is but one store, behind them. -/
def okFree (hint : Nat → Nat) (ops : Array Oper) : Bool :=
  (List.range ops.size).all fun i => match ops[i]? with
    | none => true
    | some oi => !free hint oi || (oi.guard.isNone && (List.range ops.size).all fun j => match ops[j]? with
      | none => true
      | some oj => (decide (j < i) || (match oj.dst with
          | none => true
          | some d => !(tmpsOf oi.op.operands.toList).contains d && (j == i || oi.dst != some d))) &&
        (decide (kd hint oj < 2) || (decide (i < j) && (List.range ops.size).all fun k => match ops[k]? with
          | none => true
          | some ok => k == j || decide (kd hint ok < 2))))

def okD (hint : Nat → Nat) (ops : Array Oper) : Bool :=
  (hint 100000 == 0 || okFree hint ops) &&
  let b := Region.before ops
  (List.range ops.size).all fun j => match ops[j]? with
    | none => true
    | some oj => (oj.after.toList.all fun e => !Region.binds .any e || decide (e.on < j)) &&
      (List.range j).all fun i => match ops[i]? with
        | none => true
        | some oi => !depD hint ops oi oj || (b.getD j 0).testBit i

section
variable {P : Program} {τ : TypeId → Option TyD} {hint : Nat → Nat} {nt : Nat} {ops : Array Oper} {ro : Option Nat}

theorem map_some_st {x : Option V} {σ σ' : St} {v : V} (h : x.map (fun u => (u, σ)) = some (v, σ')) : σ' = σ ∧ ∀ σ2 : St, x.map (fun u => (u, σ2)) = some (v, σ2) := by
  obtain ⟨u, hu, he⟩ := Option.map_eq_some_iff.1 h
  simp only [Prod.mk.injEq] at he
  obtain ⟨rfl, rfl⟩ := he
  exact ⟨rfl, fun σ2 => by rw [hu]; rfl⟩

theorem vbuiltin_kd0 {b : Builtin} {obj : Bool} {ts : List TypeId} {xs : List V} {σ σ' : St} {v : V} (h1 : b ≠ .append) (h2 : b ≠ .copy) (h : vbuiltin τ σ obj b ts xs = some (v, σ')) : σ' = σ ∧ ∀ σ2 : St, vbuiltin τ σ2 obj b ts xs = some (v, σ2) := by
  unfold vbuiltin at h ⊢
  split at h
  · split at h
    · exact map_some_st h
    · cases h
  · exact map_some_st h
  · exact map_some_st h
  · exact absurd rfl h1
  · exact absurd rfl h2
  · cases h

theorem vop_kd0 {fr : Nat → V} {o : Oper} {σ σ' : St} {v : V} (hk : kd hint o = 0) (h : vop τ (fun d => hint d == 2) fr σ o = some (v, σ')) : σ' = σ ∧ ∀ σ2 : St, vop τ (fun d => hint d == 2) fr σ2 o = some (v, σ2) := by
  unfold kd at hk
  unfold vop at h ⊢
  cases ho : o.op
  case call c =>
    obtain ⟨callee, args, ts⟩ := c
    cases callee with
    | builtin b =>
      simp only [ho] at h hk ⊢
      refine vbuiltin_kd0 (fun hb => ?_) (fun hb => ?_) h
      · subst hb; simp at hk
      · subst hb; simp at hk
    | value f => simp only [ho] at h; cases h
    | invoke r m => simp only [ho] at h; cases h
  case makeSlice t l c =>
    simp only [ho] at h hk ⊢
    split at hk
    · cases hk
    · rename_i hh
      have hob : (o.dst.any fun d => hint d == 2) = false := by
        cases hd : o.dst with
        | none => rfl
        | some d => simp only [hintOf, hd] at hh; simp [hh]
      rw [hob] at h
      simp only [hob]
      unfold vmake at h ⊢
      split at h <;> first | (cases h; done) | skip
      split at h <;> first | (cases h; done) | skip
      split at h <;> first | (cases h; done) | skip
      split at h <;> first | (cases h; done) | skip
      rename_i hc
      simp only [Bool.false_eq_true, if_false, Option.some.injEq, Prod.mk.injEq] at h
      obtain ⟨rfl, rfl⟩ := h
      exact ⟨rfl, fun σ2 => by rw [if_pos hc]; rfl⟩
  case pick c x y =>
    simp only [ho] at h ⊢
    split at h <;> first | (cases h; done) | skip
    all_goals
      simp only [Option.some.injEq, Prod.mk.injEq] at h
      obtain ⟨rfl, rfl⟩ := h
      exact ⟨rfl, fun σ2 => rfl⟩
  case nilCheck x =>
    simp only [ho] at h ⊢
    split at h <;> first | (cases h; done) | skip
    all_goals
      simp only [Option.some.injEq, Prod.mk.injEq] at h
      obtain ⟨rfl, rfl⟩ := h
      exact ⟨rfl, fun σ2 => rfl⟩
  case binOp op t x y yt =>
    simp only [ho] at h ⊢
    split at h <;> first | (cases h; done) | skip
    exact map_some_st h
  case makeInterface t x =>
    simp only [ho] at h ⊢
    split at h <;> first | (cases h; done) | skip
    split at h <;> first | (cases h; done) | skip
    simp only [Option.some.injEq, Prod.mk.injEq] at h
    obtain ⟨rfl, rfl⟩ := h
    exact ⟨rfl, fun σ2 => rfl⟩
  case makeFunc fn first caps =>
    cases fn <;> simp only [ho] at h ⊢ <;> first | (cases h; done) | skip
    split at h <;> first | (cases h; done) | skip
    simp only [Option.some.injEq, Prod.mk.injEq] at h
    obtain ⟨rfl, rfl⟩ := h
    rename_i hf
    exact ⟨rfl, fun σ2 => by rw [if_pos hf]⟩
  all_goals
    simp only [ho] at h hk ⊢
    first
      | (cases h; done)
      | (cases hk; done)
      | exact map_some_st h
      | (simp only [Option.some.injEq, Prod.mk.injEq] at h
         obtain ⟨rfl, rfl⟩ := h
         exact ⟨rfl, fun σ2 => rfl⟩)

theorem vop_kd1 {fr : Nat → V} {o : Oper} {σ σ' : St} {v : V} (hk : kd hint o < 2) (h : vop τ (fun d => hint d == 2) fr σ o = some (v, σ')) : σ' = σ := by
  by_cases h0 : kd hint o = 0
  · exact (vop_kd0 h0 h).1
  · unfold kd at hk h0
    unfold vop at h
    cases ho : o.op
    case load t x =>
      simp only [ho] at h
      exact (map_some_st h).1
    case call c =>
      obtain ⟨callee, args, ts⟩ := c
      cases callee with
      | builtin b => cases b <;> simp [ho] at hk h0
      | value f => simp only [ho] at h; cases h
      | invoke r m => simp only [ho] at h; cases h
    case makeSlice t l c =>
      simp only [ho] at hk h0
      split at hk
      · simp at hk
      · rename_i hh; simp [hh] at h0
    all_goals simp [ho] at hk h0

theorem map_veval {fr fr2 : Nat → V} {l : List Operand} (h : ∀ x ∈ l, veval fr2 x = veval fr x) : l.map (veval fr2) = l.map (veval fr) := List.map_congr_left h

theorem parts_veval {fr fr2 : Nat → V} {ps : Array (Nat × Operand)} (h : ∀ x ∈ (ps.toList.map (·.2)).toArray, veval fr2 x = veval fr x) :
    ps.toList.map (vprt fr2) = ps.toList.map (vprt fr) := by
  refine List.map_congr_left fun p hp => ?_
  unfold vprt
  rw [h p.2 (by simpa using ⟨p.1, by simpa using hp⟩)]

theorem opt_veval {fr fr2 : Nat → V} {x : Option Operand} (h : ∀ y, x = some y → veval fr2 y = veval fr y) : x.map (veval fr2) = x.map (veval fr) := by
  cases x with
  | none => rfl
  | some y => simp [h y rfl]

theorem vop_congr {b : Nat → Bool} {fr fr2 : Nat → V} {o : Oper} {σ : St} (h : ∀ x ∈ o.op.operands, veval fr2 x = veval fr x) : vop τ b fr2 σ o = vop τ b fr σ o := by
  unfold vop
  cases ho : o.op
  case call c =>
    obtain ⟨callee, args, ts⟩ := c
    rw [ho] at h
    cases callee with
    | builtin bb =>
      simp only
      rw [map_veval fun x hx => h x (by simpa [Op.operands, Call.operands] using hx)]
    | _ => rfl
  case build t ps => rw [ho] at h; simp only; rw [parts_veval h]
  case buildSlice t n ps => rw [ho] at h; simp only; rw [parts_veval h]
  case makeFunc fn first caps =>
    rw [ho] at h
    cases fn <;> simp only
    rw [map_veval fun x hx => h x (by simp [Op.operands]; exact .inr (by simpa using hx))]
  case slice t x lo hi mx =>
    rw [ho] at h
    simp only
    rw [h x (by simp [Op.operands]), opt_veval fun y hy => h y (by simp [Op.operands, hy]), opt_veval fun y hy => h y (by simp [Op.operands, hy]), opt_veval fun y hy => h y (by simp [Op.operands, hy])]
  all_goals first
    | rfl
    | (rw [ho] at h; simp only [Op.operands] at h; simp [h]; done)

theorem vstep_congr {fr fr2 : Nat → V} {o : Oper} {σ : St} {ref : Bool} {K : V → St → Prop} (h : ∀ x ∈ o.op.operands, veval fr2 x = veval fr x) : vstep P τ hint ref o fr2 σ K ↔ vstep P τ hint ref o fr σ K := by
  unfold vstep
  cases ho : o.op
  case call c =>
    obtain ⟨callee, args, ts⟩ := c
    cases callee with
    | value f =>
      simp only
      rw [ho] at h
      rw [h f (by simp [Op.operands, Call.operands]), map_veval fun x hx => h x (by simp [Op.operands, Call.operands]; exact .inr (by simpa using hx))]
    | _ => simp only; rw [vop_congr h]
  all_goals
    simp only
    rw [vop_congr h]

/-- One step, exactly. -/
def StepAt (P : Program) (τ : TypeId → Option TyD) (hint : Nat → Nat) (o : Oper) (fr : Nat → V) (σ : St) (v : V) (σ' : St) : Prop := vstep P τ hint false o fr σ fun v1 σ1 => v1 = v ∧ σ1 = σ'

theorem vstep_at {fr : Nat → V} {o : Oper} {σ : St} {K : V → St → Prop} (h : vstep P τ hint false o fr σ K) : ∃ v σ', StepAt P τ hint o fr σ v σ' ∧ K v σ' := by
  unfold StepAt
  unfold vstep at h ⊢
  cases ho : o.op
  case call c =>
    obtain ⟨callee, args, ts⟩ := c
    cases callee with
    | value f =>
      simp only [ho] at h ⊢
      split at h <;> first | exact h.elim | skip
      rename_i F caps hfv
      try simp only [hfv]
      rcases h with h | ⟨h, _⟩ | ⟨q1, v, σ', q2, q3, q4⟩
      · unfold vcall at h ⊢
        split at h <;> first | exact h.elim | skip
        rename_i us b hus
        obtain ⟨r, h1, h2, h3⟩ := h
        exact ⟨_, _, .inl ⟨r, h1, h2, rfl, rfl⟩, h3⟩
      · cases h
      · exact ⟨v, σ', .inr (.inr ⟨q1, v, σ', q2, q3, rfl, rfl⟩), q4⟩
    | _ =>
      try simp only [ho] at h
      split at h <;> first | exact h.elim | skip
      rename_i v σ' hv
      exact ⟨v, σ', by first | exact ⟨rfl, rfl⟩ | (simp only [hv]; exact ⟨rfl, rfl⟩), h⟩
  all_goals
    simp only [ho] at h ⊢
    split at h <;> first | exact h.elim | skip
    rename_i v σ' hv
    exact ⟨v, σ', ⟨rfl, rfl⟩, h⟩

theorem StepAt.kd1 {fr : Nat → V} {o : Oper} {σ σ' : St} {v : V} (hk : kd hint o < 2) (h : StepAt P τ hint o fr σ v σ') : σ' = σ := by
  unfold StepAt vstep at h
  cases ho : o.op
  case call c =>
    obtain ⟨callee, args, ts⟩ := c
    cases callee with
    | value f =>
      have h0 : hintOf hint o = 0 := by
        unfold kd at hk; simp only [ho] at hk
        split at hk
        · assumption
        · omega
      simp only [ho] at h
      split at h <;> first | exact h.elim | skip
      rcases h with h | ⟨h, _⟩ | ⟨h, _⟩
      · unfold vcall at h
        split at h <;> first | exact h.elim | skip
        obtain ⟨r, _, _, _, h3⟩ := h
        rw [← h3, h0]
        unfold vrecv
        split <;> rfl
      · cases h
      · rw [h0] at h; cases h
    | _ =>
      simp only [ho] at h
      split at h <;> first | exact h.elim | skip
      rename_i v1 σ1 hv
      rw [← h.2]
      exact vop_kd1 hk hv
  all_goals
    simp only [ho] at h
    split at h <;> first | exact h.elim | skip
    rename_i v1 σ1 hv
    rw [← h.2]
    exact vop_kd1 hk hv

theorem StepAt.kd0 {fr : Nat → V} {o : Oper} {σ σ' : St} {v : V} (hk : kd hint o = 0) (h : StepAt P τ hint o fr σ v σ') (σ2 : St) : StepAt P τ hint o fr σ2 v σ2 := by
  have go : ∀ v1 σ1, vop τ (fun d => hint d == 2) fr σ o = some (v1, σ1) → vop τ (fun d => hint d == 2) fr σ2 o = some (v1, σ2) := fun v1 σ1 h => (vop_kd0 hk h).2 σ2
  unfold StepAt vstep at h ⊢
  cases ho : o.op
  case call c =>
    obtain ⟨callee, args, ts⟩ := c
    cases callee with
    | value f =>
      unfold kd at hk; simp only [ho] at hk
      split at hk <;> cases hk
    | _ =>
      simp only [ho] at h ⊢
      split at h <;> first | exact h.elim | skip
      rename_i v1 σ1 hv
      rw [go v1 σ1 hv]
      exact ⟨h.1, rfl⟩
  all_goals
    simp only [ho] at h ⊢
    split at h <;> first | exact h.elim | skip
    rename_i v1 σ1 hv
    rw [go v1 σ1 hv]
    exact ⟨h.1, rfl⟩

/-! ### What is ahead of what -/
theorem inner_reach {acc : Array Nat} {X : Nat → Prop} (hacc : ∀ j i, (acc.getD j 0).testBit i = true → X j → X i) : ∀ (es : List Edge), (∀ e ∈ es, Region.binds .any e = true → X e.on) → ∀ (s : Nat), (∀ i, s.testBit i = true → X i) →
    ∀ i, (es.foldl (fun s e => if Region.binds .any e then s ||| 2 ^ e.on ||| acc.getD e.on 0 else s) s).testBit i = true → X i
  | [], _, s, hs, i, h => hs i h
  | e :: es, he, s, hs, i, h => by
    simp only [List.foldl_cons] at h
    refine inner_reach hacc es (fun e' h' => he e' (by simp [h'])) _ (fun k hk => ?_) i h
    split at hk
    · rename_i hb
      have hx := he e (by simp) hb
      simp only [Nat.testBit_or, Bool.or_eq_true] at hk
      rcases hk with (hk | hk) | hk
      · exact hs k hk
      · rw [Nat.testBit_two_pow] at hk
        have : e.on = k := by simpa using hk
        rw [← this]; exact hx
      · exact hacc e.on k hk hx
    · exact hs k hk

theorem before_list {X : Nat → Prop} (hX : ∀ (j : Nat) o, ops[j]? = some o → X j → ∀ e ∈ o.after, Region.binds .any e = true → X e.on) : ∀ (l : List Oper) (acc : Array Nat), ops.toList.drop acc.size = l → (∀ j i, (acc.getD j 0).testBit i = true → X j → X i) →
    ∀ j i, ((l.foldl (fun acc o => acc.push (o.after.foldl (fun s e => if Region.binds .any e then s ||| 2 ^ e.on ||| acc.getD e.on 0 else s) 0)) acc).getD j 0).testBit i = true → X j → X i
  | [], acc, _, hacc, j, i, h, hj => hacc j i h hj
  | o :: l, acc, hd, hacc, j, i, h, hj => by
    have hok : ops[acc.size]? = some o := by
      have : (ops.toList.drop acc.size)[0]? = some o := by rw [hd]; rfl
      rw [List.getElem?_drop] at this
      simpa using this
    simp only [List.foldl_cons] at h
    refine before_list hX l _ ?_ (fun j i h hj => ?_) j i h hj
    · rw [Array.size_push]
      have : (ops.toList.drop acc.size).drop 1 = l := by rw [hd]; rfl
      rw [List.drop_drop] at this
      exact this
    · rw [Array.getD_eq_getD_getElem?, Array.getElem?_push] at h
      split at h
      · rename_i he
        simp only [Option.getD_some] at h
        rw [← Array.foldl_toList] at h
        exact inner_reach hacc o.after.toList (fun e h' hb => hX acc.size o hok (he ▸ hj) e (by simpa using h') hb) 0 (fun k hk => by simp at hk) i h
      · exact hacc j i (by rwa [Array.getD_eq_getD_getElem?]) hj

theorem before_reach {X : Nat → Prop} (hX : ∀ (j : Nat) o, ops[j]? = some o → X j → ∀ e ∈ o.after, Region.binds .any e = true → X e.on) (j i : Nat) (h : ((Region.before ops).getD j 0).testBit i = true) (hj : X j) : X i := by
  unfold Region.before at h
  rw [← Array.foldl_toList] at h
  exact before_list hX ops.toList #[] rfl (fun j i h => by simp at h) j i h hj

theorem kd_le (o : Oper) : kd hint o ≤ 3 := by
  unfold kd
  split <;> first | omega | (split <;> omega)
theorem free_load {o : Oper} (h : free hint o = true) : ∃ t x d, o.op = .load t x ∧ o.dst = some d ∧ hint d = 4 ∧ hint 100000 ≠ 0 := by
  unfold free at h
  split at h
  · rename_i t x d h1 h2
    simp only [Bool.and_eq_true, bne_iff_ne, beq_iff_eq] at h
    exact ⟨t, x, d, h1, h2, h.2, h.1⟩
  · cases h
theorem free_two {o : Oper} (ho : 2 ≤ kd hint o) : free hint o = false := by
  cases hf : free hint o with
  | false => rfl
  | true =>
    obtain ⟨t, x, d, h1, -⟩ := free_load hf
    unfold kd at ho
    rw [h1] at ho
    simp at ho
theorem dep_two {a b : Oper} (ha : 2 ≤ kd hint a) (hb : 2 ≤ kd hint b) : depD hint ops a b = true := by
  have h1 := kd_le (hint := hint) a
  have h2 := kd_le (hint := hint) b
  have ea : kd hint a = 2 ∨ kd hint a = 3 := by omega
  have eb : kd hint b = 2 ∨ kd hint b = 3 := by omega
  have fa := free_two ha
  have fb := free_two hb
  unfold depD
  rcases ea with ea | ea <;> rcases eb with eb | eb <;> simp [ea, eb, fa, fb]

theorem okD_spec (h : okD hint ops = true) {j : Nat} {oj : Oper} (hj : ops[j]? = some oj) : (∀ e ∈ oj.after, Region.binds .any e = true → e.on < j) ∧ ∀ i oi, ops[i]? = some oi → i < j → depD hint ops oi oj = true → ((Region.before ops).getD j 0).testBit i = true := by
  unfold okD at h
  have h := (Bool.and_eq_true _ _ ▸ h).2
  have hlt := (Array.getElem?_eq_some_iff.1 hj).1
  have h1 := List.all_eq_true.1 h j (by simpa using hlt)
  simp only [hj, Bool.and_eq_true] at h1
  refine ⟨fun e he hb => ?_, fun i oi hi hij hd => ?_⟩
  · have := List.all_eq_true.1 h1.1 e (by simpa using he)
    simpa [hb] using this
  · have := List.all_eq_true.1 h1.2 i (by simpa using hij)
    simpa [hi, hd] using this

theorem okD_free (h : okD hint ops = true) {i : Nat} {oi : Oper} (hi : ops[i]? = some oi) (hf : free hint oi = true) :
    oi.guard = none ∧ ∀ j oj, ops[j]? = some oj → (i ≤ j → ∀ d, oj.dst = some d → d ∉ tmpsOf oi.op.operands.toList ∧ (j ≠ i → oi.dst ≠ some d)) ∧ (2 ≤ kd hint oj → i < j ∧ ∀ k ok, ops[k]? = some ok → k ≠ j → kd hint ok < 2) := by
  unfold okD at h
  have h1 := (Bool.and_eq_true _ _ ▸ h).1
  obtain ⟨t, x, d, e1, e2, e3, e4⟩ := free_load hf
  have h2 : okFree hint ops = true := by
    rcases (Bool.or_eq_true _ _ ▸ h1) with h | h
    · exact absurd (by simpa using h) e4
    · exact h
  unfold okFree at h2
  have hlt := (Array.getElem?_eq_some_iff.1 hi).1
  have h3 := List.all_eq_true.1 h2 i (by simpa using hlt)
  simp only [hi, hf, Bool.not_true, Bool.false_or, Bool.and_eq_true] at h3
  refine ⟨by simpa using h3.1, fun j oj hj => ?_⟩
  have hltj := (Array.getElem?_eq_some_iff.1 hj).1
  have h4 := List.all_eq_true.1 h3.2 j (by simpa using hltj)
  simp only [hj, Bool.and_eq_true, Bool.or_eq_true, decide_eq_true_eq] at h4
  refine ⟨fun hij d hd => ?_, fun hk => ?_⟩
  · rcases h4.1 with h | h
    · omega
    · simp only [hd, Bool.and_eq_true, Bool.not_eq_true', List.contains_eq_mem, decide_eq_false_iff_not, Bool.or_eq_true, beq_iff_eq, bne_iff_ne] at h
      exact ⟨h.1, fun hne => h.2.resolve_left hne⟩
  · rcases h4.2 with h | h
    · omega
    · refine ⟨h.1, fun k ok hok hne => ?_⟩
      have hltk := (Array.getElem?_eq_some_iff.1 hok).1
      have h5 := List.all_eq_true.1 h.2 k (by simpa using hltk)
      simp only [hok, Bool.or_eq_true, beq_iff_eq, decide_eq_true_eq] at h5
      exact h5.resolve_left hne

/-! ### What is known of what is not made yet: nothing -/
theorem St.WF.new {σ : St} (h : σ.WF) (cs : List V) : (σ.new cs).WF := fun o ho => by
  simp only [St.new] at ho ⊢
  rw [upd_ne _ _ (by omega)]
  exact h o (by omega)
theorem St.WF.tok {σ : St} (h : σ.WF) (t : Nat) (e : TypeId) : (σ.tok t e).WF := fun o ho => by
  simp only [St.tok] at ho ⊢
  rw [upd_ne _ _ (by omega)]
  by_cases he : o = t
  · subst he; rw [upd_same]
  · rw [upd_ne _ _ he]; exact h o (by omega)
theorem St.WF.tok' {σ : St} (h : σ.WF) (e : TypeId) : (St.mk (upd σ.h σ.n (some (.tok e))) (σ.n + 1)).WF := fun o ho => by
  simp only at ho ⊢
  rw [upd_ne _ _ (by omega)]
  exact h o (by omega)
theorem St.WF.put {σ : St} (h : σ.WF) {o : Nat} {x : Ob} (hx : σ.h o = some x) (cs : List V) : (σ.put o cs).WF := fun p hp => by
  simp only [St.put] at hp ⊢
  rw [upd_ne _ _ (fun he => by
    subst he
    rw [h p hp] at hx; cases hx)]
  exact h p hp
theorem vapp_wf {obj : Bool} {t : TypeId} {x y v : V} {σ σ' : St} (hw : σ.WF) (h : vapp τ σ obj t x y = some (v, σ')) : σ'.WF := by
  unfold vapp at h
  repeat' split at h
  all_goals first
    | (cases h; done)
    | (simp only [Option.some.injEq, Prod.mk.injEq] at h
       obtain ⟨-, rfl⟩ := h
       first | exact hw | exact hw.new _ | exact hw.tok _ _)
theorem vcopy_wf {dt : TypeId} {x y v : V} {σ σ' : St} (hw : σ.WF) (h : vcopy τ σ dt x y = some (v, σ')) : σ'.WF := by
  unfold vcopy at h
  repeat' split at h
  all_goals first
    | (cases h; done)
    | (simp only [Option.some.injEq, Prod.mk.injEq] at h
       obtain ⟨-, rfl⟩ := h
       exact hw.put (by assumption) _)
theorem vappZ_wf {obj : Bool} {t : TypeId} {x v : V} {n : Int} {σ σ' : St} (hw : σ.WF) (h : vappZ τ σ obj t x n = some (v, σ')) : σ'.WF := by
  unfold vappZ vappC at h
  repeat' split at h
  all_goals first
    | (cases h; done)
    | (simp only [Option.some.injEq, Prod.mk.injEq] at h
       obtain ⟨-, rfl⟩ := h
       first | exact hw | exact hw.new _ | exact hw.tok _ _)
theorem vbuiltin_wf {b : Builtin} {obj : Bool} {ts : List TypeId} {xs : List V} {v : V} {σ σ' : St} (hw : σ.WF) (h : vbuiltin τ σ obj b ts xs = some (v, σ')) : σ'.WF := by
  unfold vbuiltin at h
  repeat' split at h
  all_goals first
    | (cases h; done)
    | (rw [(map_some_st h).1]; exact hw)
    | exact vapp_wf hw h
    | exact vappZ_wf hw h
    | exact vcopy_wf hw h
theorem vop_wf {fr : Nat → V} {o : Oper} {σ σ' : St} {v : V} (hw : σ.WF) (h : vop τ (fun d => hint d == 2) fr σ o = some (v, σ')) : σ'.WF := by
  by_cases hk : kd hint o < 2
  · rw [vop_kd1 hk h]; exact hw
  · unfold vop at h
    unfold kd at hk
    cases ho : o.op
    case alloc t =>
      simp only [ho] at h
      unfold valloc at h
      split at h <;> first | (cases h; done) | skip
      simp only [Option.some.injEq, Prod.mk.injEq] at h
      obtain ⟨-, rfl⟩ := h
      exact hw.new _
    case box t x =>
      simp only [ho] at h
      unfold vbox at h
      split at h <;> first | (cases h; done) | skip
      simp only [Option.some.injEq, Prod.mk.injEq] at h
      obtain ⟨-, rfl⟩ := h
      exact hw.new _
    case store t a x =>
      simp only [ho] at h
      obtain ⟨σ1, h1, he⟩ := Option.map_eq_some_iff.1 h
      simp only [Prod.mk.injEq] at he
      obtain ⟨-, rfl⟩ := he
      unfold vstore at h1
      repeat' split at h1
      all_goals first
        | (cases h1; done)
        | (simp only [Option.some.injEq] at h1
           subst h1
           exact hw.put (by assumption) _)
    case makeSlice t l c =>
      simp only [ho] at h
      unfold vmake at h
      repeat' split at h
      all_goals first
        | (cases h; done)
        | (simp only [Option.some.injEq, Prod.mk.injEq] at h
           obtain ⟨-, rfl⟩ := h
           first | exact hw | exact hw.new _)
    case call c =>
      obtain ⟨callee, args, ts⟩ := c
      cases callee with
      | builtin b => simp only [ho] at h; exact vbuiltin_wf hw h
      | value f => simp only [ho] at h; cases h
      | invoke r m => simp only [ho] at h; cases h
    all_goals simp [ho] at hk
theorem vrecv_wf {σ : St} (hw : σ.WF) (h : Nat) (r : V) : (vrecv σ h r).2.WF := by
  unfold vrecv
  repeat' split
  all_goals first | exact hw | exact hw.new _ | exact hw.tok' _
theorem StepAt.wf {fr : Nat → V} {o : Oper} {σ σ' : St} {v : V} (hw : σ.WF) (h : StepAt P τ hint o fr σ v σ') : σ'.WF := by
  unfold StepAt vstep at h
  split at h
  · split at h <;> first | exact h.elim | skip
    rcases h with h | ⟨h, _⟩ | ⟨_, v1, σ1, h1, _, h2⟩
    · unfold vcall at h
      split at h <;> first | exact h.elim | skip
      obtain ⟨r, _, _, _, h3⟩ := h
      rw [← h3]; exact vrecv_wf hw _ _
    · cases h
    · rw [← h2.2]; exact h1 hw
  · split at h <;> first | exact h.elim | skip
    rename_i v1 σ1 hv
    rw [← h.2]; exact vop_wf hw hv

/-- The second may know of more. -/
def St.Up (σ σ' : St) : Prop := σ.n ≤ σ'.n ∧ ∀ o, o < σ.n → σ'.h o = σ.h o
theorem St.Up.refl (σ : St) : σ.Up σ := ⟨Nat.le_refl _, fun _ _ => rfl⟩
theorem St.Up.trans {a b c : St} (h : a.Up b) (k : b.Up c) : a.Up c := ⟨Nat.le_trans h.1 k.1, fun o ho => (k.2 o (Nat.lt_of_lt_of_le ho h.1)).trans (h.2 o ho)⟩
theorem St.Up.new (σ : St) (cs : List V) : σ.Up (σ.new cs) := ⟨Nat.le_succ _, fun o ho => upd_ne _ _ (by omega)⟩
theorem StepAt.up {fr : Nat → V} {o : Oper} {σ σ' : St} {v : V} (hk : kd hint o ≠ 2) (h : StepAt P τ hint o fr σ v σ') : σ.Up σ' := by
  by_cases hk2 : kd hint o < 2
  · rw [h.kd1 hk2]; exact .refl _
  · unfold StepAt vstep at h
    have hk' := hk
    unfold kd at hk hk2
    cases ho : o.op
    case alloc t =>
      simp only [ho] at h
      split at h <;> first | exact h.elim | skip
      rename_i v1 σ1 hv
      rw [← h.2]
      unfold vop at hv
      simp only [ho] at hv
      unfold valloc at hv
      split at hv <;> first | (cases hv; done) | skip
      simp only [Option.some.injEq, Prod.mk.injEq] at hv
      obtain ⟨-, rfl⟩ := hv
      exact .new _ _
    case call c =>
      obtain ⟨callee, args, ts⟩ := c
      cases callee with
      | builtin b => cases b <;> simp [ho] at hk hk2
      | value f =>
        simp only [ho] at hk hk2
        split at hk <;> simp_all
      | invoke r m => simp [ho] at hk2
    case makeSlice t l c =>
      simp only [ho] at hk hk2
      split at hk <;> simp_all
    all_goals simp [ho] at hk hk2

/-! ### An operation that reads, where other new things are there -/
def idOk (n : Nat) : V → Prop
  | .ptr o _ => o < n
  | .osl o _ _ _ => o < n
  | _ => True
def idsOk (n : Nat) : V → Prop
  | .fn _ caps => ∀ u ∈ caps, idOk n u
  | v => idOk n v
theorem idOk_of {C : Cx} {σ : St} (hσ : StRel C σ) {v : V} {c : Value} (h : VRel C v c) : idOk σ.n v := by
  unfold idOk
  split
  · obtain ⟨_, _, hm, _⟩ := h.inv_ptr; exact hσ.id _ hm
  · obtain ⟨_, _, _, hm, _⟩ := h.inv_osl; exact hσ.id _ hm
  · trivial
theorem idsOk_of {C : Cx} {σ : St} (hσ : StRel C σ) {v : V} {c : Value} (h : VRel C v c) : idsOk σ.n v := by
  unfold idsOk
  split
  · obtain ⟨ds, _, hl, hr⟩ := h.inv_fn
    intro u hu
    obtain ⟨j, hj⟩ := List.mem_iff_getElem?.1 hu
    have hlt := (List.getElem?_eq_some_iff.1 hj).1
    exact idOk_of hσ (hr j u _ hj (Array.getElem?_eq_getElem (by omega)))
  · exact idOk_of hσ h
section
variable {σ σ2 : St} (hw : σ.WF) (ha : ∀ o, o < σ.n → o < σ2.n → σ2.h o = σ.h o)
include hw ha
theorem same_at {o : Nat} {x : Ob} (hx : σ.h o = some x) (ho : o < σ2.n) : σ2.h o = some x := by
  have : o < σ.n := by
    rcases Nat.lt_or_ge o σ.n with h | h
    · exact h
    · rw [hw o h] at hx; cases hx
  rw [ha o this ho]; exact hx
theorem vload_same {t : TypeId} {x v : V} (hx : idOk σ2.n x) (h : vload τ σ t x = some v) : vload τ σ2 t x = some v := by
  unfold vload at h ⊢
  split at h <;> first | (cases h; done) | skip
  rename_i D hD
  split at h <;> first | (cases h; done) | skip
  · rename_i o off
    split at h <;> first | (cases h; done) | skip
    rename_i cs hcs
    simp only [same_at hw ha hcs hx]
    exact h
  · exact h
theorem varg1_same {v : V} {r : V × Bool} (hv : idOk σ2.n v) (h : varg1 σ v = some r) : varg1 σ2 v = some r := by
  unfold varg1 at h ⊢
  split at h
  · rename_i o off len cap
    split at h <;> first | (cases h; done) | skip
    rename_i cs hcs
    simp only [same_at hw ha hcs hv]
    exact h
  · rename_i o off
    split at h <;> first | (cases h; done) | skip
    rename_i cs hcs
    simp only [same_at hw ha hcs hv]
    exact h
  · exact h
theorem vargs1_same : ∀ {vs : List V} {r : List V × Bool}, (∀ v ∈ vs, idOk σ2.n v) → vargs1 σ vs = some r → vargs1 σ2 vs = some r
  | [], r, _, h => h
  | v :: vs, r, hv, h => by
    simp only [vargs1] at h ⊢
    split at h <;> first | (cases h; done) | skip
    rename_i u b us c h1 h2
    rw [varg1_same hw ha (hv v (by simp)) h1, vargs1_same (fun u hu => hv u (by simp [hu])) h2]
    exact h
theorem varg_same {v : V} {r : V × Bool} (hv : idsOk σ2.n v) (h : varg σ v = some r) : varg σ2 v = some r := by
  unfold varg at h ⊢
  split at h
  · rename_i f caps
    obtain ⟨p, hp, he⟩ := Option.map_eq_some_iff.1 h
    simp only [vargs1_same hw ha hv hp]
    exact congrArg some he
  · rename_i hne
    have hv' : idOk σ2.n v := by
      unfold idsOk at hv
      split at hv
      · exact absurd rfl (hne _ _)
      · exact hv
    exact varg1_same hw ha hv' h
theorem vargs_same : ∀ {vs : List V} {r : List V × Bool}, (∀ v ∈ vs, idsOk σ2.n v) → vargs σ vs = some r → vargs σ2 vs = some r
  | [], r, _, h => h
  | v :: vs, r, hv, h => by
    simp only [vargs] at h ⊢
    split at h <;> first | (cases h; done) | skip
    rename_i u b us c h1 h2
    rw [varg_same hw ha (hv v (by simp)) h1, vargs_same (fun u hu => hv u (by simp [hu])) h2]
    exact h
theorem StepAt.reads {C : Cx} (hσ : StRel C σ2) {fr : Nat → V} {a : Act} (hf : FrRel C fr a) {o : Oper} {v : V} (hk : kd hint o = 1) (h : StepAt P τ hint o fr σ v σ) : StepAt P τ hint o fr σ2 v σ2 := by
  unfold StepAt vstep at h ⊢
  unfold kd at hk
  cases ho : o.op
  case load t x =>
    simp only [ho] at h ⊢
    split at h <;> first | exact h.elim | skip
    rename_i v1 σ1 hv
    unfold vop at hv ⊢
    simp only [ho] at hv ⊢
    obtain ⟨u, hu, he⟩ := Option.map_eq_some_iff.1 hv
    simp only [Prod.mk.injEq] at he
    rw [vload_same hw ha (idOk_of hσ (veval_rel hσ hf x)) hu]
    exact ⟨he.1.trans h.1, rfl⟩
  case call c =>
    obtain ⟨callee, args, ts⟩ := c
    cases callee with
    | builtin b => cases b <;> simp [ho] at hk
    | value f =>
      have h0 : hintOf hint o = 0 := by
        simp only [ho] at hk
        split at hk
        · assumption
        · cases hk
      simp only [ho] at h ⊢
      split at h <;> first | exact h.elim | skip
      rename_i F caps hfv
      try simp only [hfv]
      rcases h with h | ⟨h, _⟩ | ⟨h, _⟩
      · left
        unfold vcall at h ⊢
        split at h <;> first | exact h.elim | skip
        rename_i us b hus
        have hfr := veval_rel hσ hf f
        rw [hfv] at hfr
        rw [vargs_same hw ha (fun u hu => by
          rcases List.mem_append.1 hu with hu | hu
          · obtain ⟨x, _, rfl⟩ := List.mem_map.1 hu
            exact idsOk_of hσ (veval_rel hσ hf x)
          · obtain ⟨ds, _, hl, hr⟩ := hfr.inv_fn
            obtain ⟨j, hj⟩ := List.mem_iff_getElem?.1 hu
            have hlt := (List.getElem?_eq_some_iff.1 hj).1
            exact idsOk_of hσ (hr j u _ hj (Array.getElem?_eq_getElem (by omega)))) hus]
        obtain ⟨r, h1, h2, h3, _⟩ := h
        refine ⟨r, h1, h2, ?_⟩
        rw [h0] at h3 ⊢
        have e : ∀ (s s2 : St) r, (vrecv s 0 r).1 = (vrecv s2 0 r).1 ∧ (vrecv s 0 r).2 = s := fun s s2 r => by
          unfold vrecv
          split
          · exact ⟨rfl, rfl⟩
          · exact ⟨rfl, rfl⟩
        exact ⟨by rw [(e σ2 σ r).1]; exact h3, (e σ2 σ r).2⟩
      · cases h
      · rw [h0] at h; cases h
    | invoke r m => simp [ho] at hk
  case makeSlice t l c =>
    simp only [ho] at hk
    split at hk <;> cases hk
  all_goals simp [ho] at hk
end

/-! ### The states on the way -/
/-- A run in the order of the text. -/
structure Run (P : Program) (τ : TypeId → Option TyD) (hint : Nat → Nat) (nt : Nat) (ops : Array Oper) (frs : Nat → Nat → V) (σs : Nat → St) (vs : Nat → V) : Prop where
  step : ∀ i o, ops[i]? = some o → ∃ b, wantedV ops (frs i) o = some b ∧ (b = true → StepAt P τ hint o (frs i) (σs i) (vs i) (σs (i + 1))) ∧ (b = false → vs i = .tup [] ∧ σs (i + 1) = σs i)
  put : ∀ i o, ops[i]? = some o → (∀ d, o.dst = some d → d < nt ∧ frs (i + 1) = upd (frs i) d (vs i)) ∧ (o.dst = none → frs (i + 1) = frs i)

theorem vops_run {K : (Nat → V) → St → Prop} : ∀ (l : List Oper) (k : Nat) (fr : Nat → V) (σ : St), ops.toList.drop k = l → vops P τ hint nt ops false l fr σ K →
    ∃ (frs : Nat → Nat → V) (σs : Nat → St) (vs : Nat → V), frs k = fr ∧ σs k = σ ∧ K (frs (k + l.length)) (σs (k + l.length)) ∧
      (∀ i o, k ≤ i → ops[i]? = some o → ∃ b, wantedV ops (frs i) o = some b ∧ (b = true → StepAt P τ hint o (frs i) (σs i) (vs i) (σs (i + 1))) ∧ (b = false → vs i = .tup [] ∧ σs (i + 1) = σs i)) ∧
      (∀ i o, k ≤ i → ops[i]? = some o → (∀ d, o.dst = some d → d < nt ∧ frs (i + 1) = upd (frs i) d (vs i)) ∧ (o.dst = none → frs (i + 1) = frs i))
  | [], k, fr, σ, hd, h => by
    have hno : ∀ i o, k ≤ i → ops[i]? = some o → False := fun i o hk ho => by
      have h1 := (Array.getElem?_eq_some_iff.1 ho).1
      have h2 : (ops.toList.drop k).length = 0 := by rw [hd]; rfl
      simp at h2; omega
    exact ⟨fun _ => fr, fun _ => σ, fun _ => .undef, rfl, rfl, h, fun i o hk ho => (hno i o hk ho).elim, fun i o hk ho => (hno i o hk ho).elim⟩
  | o :: l, k, fr, σ, hd, h => by
    have hok : ops[k]? = some o := by
      have : (ops.toList.drop k)[0]? = some o := by rw [hd]; rfl
      rw [List.getElem?_drop] at this
      simpa using this
    have hd' : ops.toList.drop (k + 1) = l := by
      have : (ops.toList.drop k).drop 1 = l := by rw [hd]; rfl
      rw [List.drop_drop] at this
      exact this
    have build : ∀ (b : Bool) (v : V) (σ' : St), wantedV ops fr o = some b → (b = true → StepAt P τ hint o fr σ v σ') → (b = false → v = .tup [] ∧ σ' = σ) → vput nt o v fr (fun fr' => vops P τ hint nt ops false l fr' σ' K) →
        ∃ (frs : Nat → Nat → V) (σs : Nat → St) (vs : Nat → V), frs k = fr ∧ σs k = σ ∧ K (frs (k + (o :: l).length)) (σs (k + (o :: l).length)) ∧
          (∀ i o, k ≤ i → ops[i]? = some o → ∃ b, wantedV ops (frs i) o = some b ∧ (b = true → StepAt P τ hint o (frs i) (σs i) (vs i) (σs (i + 1))) ∧ (b = false → vs i = .tup [] ∧ σs (i + 1) = σs i)) ∧
          (∀ i o, k ≤ i → ops[i]? = some o → (∀ d, o.dst = some d → d < nt ∧ frs (i + 1) = upd (frs i) d (vs i)) ∧ (o.dst = none → frs (i + 1) = frs i)) := by
      intro b v σ' hw hs1 hs2 hp
      obtain ⟨fr', hfr', hnext⟩ : ∃ fr', ((∀ d, o.dst = some d → d < nt ∧ fr' = upd fr d v) ∧ (o.dst = none → fr' = fr)) ∧ vops P τ hint nt ops false l fr' σ' K := by
        unfold vput at hp
        cases hdst : o.dst with
        | some d =>
          simp only [hdst] at hp
          by_cases hlt : d < nt
          · rw [if_pos hlt] at hp
            exact ⟨_, ⟨fun d' hd' => by cases hd'; exact ⟨hlt, rfl⟩, fun h => (by cases h)⟩, hp⟩
          · rw [if_neg hlt] at hp; exact hp.elim
        | none =>
          simp only [hdst] at hp
          exact ⟨_, ⟨fun d' hd' => (by cases hd'), fun _ => rfl⟩, hp⟩
      obtain ⟨frs, σs, vs, e1, e2, e3, e4, e5⟩ := vops_run l (k + 1) fr' σ' hd' hnext
      refine ⟨fun i => if i = k then fr else frs i, fun i => if i = k then σ else σs i, fun i => if i = k then v else vs i, by simp, by simp, ?_, fun i o' hi ho' => ?_, fun i o' hi ho' => ?_⟩
      · simp only [List.length_cons, show k + (l.length + 1) = k + 1 + l.length by omega, show ¬ (k + 1 + l.length = k) by omega, if_false]
        exact e3
      · by_cases hik : i = k
        · subst hik
          rw [hok] at ho'; cases ho'
          simp only [if_true, show ¬ (i + 1 = i) by omega, if_false, e2]
          exact ⟨b, hw, hs1, hs2⟩
        · simp only [hik, if_false, show ¬ (i + 1 = k) by omega]
          exact e4 i o' (by omega) ho'
      · by_cases hik : i = k
        · subst hik
          rw [hok] at ho'; cases ho'
          simp only [if_true, show ¬ (i + 1 = i) by omega, if_false, e1]
          exact hfr'
        · simp only [hik, if_false, show ¬ (i + 1 = k) by omega]
          exact e5 i o' (by omega) ho'
    simp only [vops] at h
    split at h <;> first | exact h.elim | skip
    · rename_i hw
      have h : vstep P τ hint false o fr σ _ := h
      obtain ⟨v, σ', h1, h2⟩ := vstep_at h
      exact build true v σ' hw (fun _ => h1) (fun h => (by cases h)) h2
    · rename_i hw
      exact build false (.tup []) σ hw (fun h => (by cases h)) (fun _ => ⟨rfl, rfl⟩) h

section states
variable (hint : Nat → Nat) (ops : Array Oper) (frs : Nat → Nat → V) (σs : Nat → St) (vs : Nat → V) (L : Nat → Bool)
/-- Slots and what is known, where just the listed ones of the first n operations have been carried out. -/
def frX : Nat → Nat → V
  | 0 => frs 0
  | n + 1 => match L n, (ops[n]?).bind (·.dst) with
    | true, some d => upd (frX n) d (vs n)
    | _, _ => frX n
def σX : Nat → St
  | 0 => σs 0
  | n + 1 => match L n, ops[n]? with
    | true, some o => if 2 ≤ kd hint o then σs (n + 1) else σX n
    | _, _ => σX n
end states

theorem eval_of_slots {fr fr2 : Nat → V} {o : Oper} (h : ∀ t ∈ tmpsOf o.op.operands.toList, fr2 t = fr t) : ∀ x ∈ o.op.operands, veval fr2 x = veval fr x := by
  intro x hx
  cases x with
  | tmp t => exact h t (by unfold tmpsOf; exact List.mem_filterMap.2 ⟨.tmp t, by simpa using hx, rfl⟩)
  | _ => rfl

theorem wantedV_congr {fr fr2 : Nat → V} {o : Oper} (h : ∀ t ∈ looks ops o, fr2 t = fr t) : wantedV ops fr2 o = wantedV ops fr o := by
  unfold wantedV
  unfold looks at h
  cases hg : o.guard with
  | none => rfl
  | some g =>
    obtain ⟨j, want⟩ := g
    simp only [hg] at h ⊢
    cases hj : ops[j]? with
    | none => rfl
    | some oj =>
      simp only
      cases hd : oj.dst with
      | none => rfl
      | some d =>
        simp only
        rw [h d (by simp [hj, hd])]

section states
variable {frs : Nat → Nat → V} {σs : Nat → St} {vs : Nat → V} {L : Nat → Bool} (hR : Run P τ hint nt ops frs σs vs) (hD : okD hint ops = true)
  (hcl : ∀ (j : Nat) o, ops[j]? = some o → L j = true → ∀ e ∈ o.after, Region.binds .any e = true → L e.on = true)
include hR hD hcl

theorem Run.kept {n : Nat} {o : Oper} (ho : ops[n]? = some o) (hk : kd hint o < 2) : σs (n + 1) = σs n := by
  obtain ⟨b, _, h1, h2⟩ := hR.step n o ho
  cases b with
  | true => exact (h1 rfl).kd1 hk
  | false => exact (h2 rfl).2

theorem Run.all (hall : ∀ j, j < ops.size → L j = true) : ∀ n, n ≤ ops.size → frX ops frs vs L n = frs n ∧ σX hint ops σs L n = σs n
  | 0, _ => ⟨rfl, rfl⟩
  | n + 1, hn => by
    obtain ⟨h1, h2⟩ := Run.all hall n (by omega)
    have ho : ops[n]? = some ops[n] := Array.getElem?_eq_getElem (by omega)
    obtain ⟨p1, p2⟩ := hR.put n _ ho
    refine ⟨?_, ?_⟩
    · simp only [frX, hall n (by omega), ho, Option.bind_some]
      cases hd : (ops[n]).dst with
      | some d => simp only; rw [(p1 d hd).2, h1]
      | none => simp only; rw [p2 hd, h1]
    · simp only [σX, hall n (by omega), ho]
      split
      · rfl
      · rename_i hk; rw [h2, Run.kept hR hD hcl ho (by omega)]

theorem Run.prev {i n : Nat} {oi : Oper} (hi : ops[i]? = some oi) (hrd : ∀ e ∈ oi.after, Region.binds .any e = true → L e.on = true) (hb : ((Region.before ops).getD i 0).testBit n = true) (hne : n ≠ i) : L n = true := by
  have := before_reach (X := fun k => k = i ∨ L k = true) (fun j o ho hj e he hbd => by
    rcases hj with rfl | hj
    · rw [hi] at ho; cases ho; exact .inr (hrd e he hbd)
    · exact .inr (hcl j o ho hj e he hbd)) i n hb (.inl rfl)
  exact this.resolve_left hne

theorem Run.next {i n : Nat} (hb : ((Region.before ops).getD n 0).testBit i = true) (hL : L n = true) : L i = true :=
  before_reach (X := fun k => L k = true) (fun j o ho hj e he hbd => hcl j o ho hj e he hbd) n i hb hL

theorem Run.slot {i : Nat} {oi : Oper} (hi : ops[i]? = some oi) (hun : L i = false) (hrd : ∀ e ∈ oi.after, Region.binds .any e = true → L e.on = true) {t : Nat} (ht : t ∈ looks ops oi ∨ oi.dst = some t) :
    ∀ n, n ≤ ops.size → (n ≤ i → frX ops frs vs L n t = frs n t) ∧ (i ≤ n → frX ops frs vs L n t = frs i t)
  | 0, _ => ⟨fun _ => rfl, fun h => by have : i = 0 := by omega
                                       subst this; rfl⟩
  | n + 1, hn => by
    obtain ⟨h1, h2⟩ := Run.slot hi hun hrd ht n (by omega)
    have ho : ops[n]? = some ops[n] := Array.getElem?_eq_getElem (by omega)
    obtain ⟨p1, p2⟩ := hR.put n _ ho
    have hbef : n < i → (ops[n]).dst = some t → L n = true := fun hlt hd => by
      refine Run.prev hR hD hcl hi hrd ((okD_spec hD hi).2 n _ ho hlt ?_) (by omega)
      unfold depD
      rw [hd]
      rcases ht with ht | ht
      · simp [ht]
      · simp [ht]
    have haft : i < n → (ops[n]).dst = some t → L n = false := fun hlt hd => by
      cases hL : L n with
      | false => rfl
      | true =>
        have := Run.next hR hD hcl ((okD_spec hD ho).2 i oi hi hlt (by
          unfold depD
          rw [hd]
          rcases ht with ht | ht
          · simp [ht]
          · simp [ht])) hL
        rw [hun] at this; cases this
    have hstep : ∀ m, (∀ d, (ops[n]).dst = some d → d ≠ t ∨ L n = false) → frX ops frs vs L n t = m → frX ops frs vs L (n + 1) t = m := fun m hd hm => by
      simp only [frX, ho, Option.bind_some]
      cases hL : L n <;> cases hdd : (ops[n]).dst <;> simp only [hm]
      rename_i d
      rcases hd d hdd with h | h
      · rw [upd_ne _ _ (Ne.symm h), hm]
      · rw [hL] at h; cases h
    refine ⟨fun hle => ?_, fun hle => ?_⟩
    · have hq := h1 (by omega)
      by_cases hd : (ops[n]).dst = some t
      · have hL := hbef (by omega) hd
        simp only [frX, ho, Option.bind_some, hL, hd, upd_same]
        rw [(p1 t hd).2, upd_same]
      · rw [hstep (frs n t) (fun d hdd => .inl fun he => hd (by rw [hdd, he])) hq]
        cases hdd : (ops[n]).dst with
        | none => rw [p2 hdd]
        | some d => rw [(p1 d hdd).2, upd_ne _ _ (fun he => hd (by rw [hdd, he]))]
    · by_cases hni : n + 1 = i
      · subst hni
        have hq := h1 (by omega)
        by_cases hd : (ops[n]).dst = some t
        · have hL := hbef (by omega) hd
          simp only [frX, ho, Option.bind_some, hL, hd, upd_same]
          rw [(p1 t hd).2, upd_same]
        · rw [hstep (frs n t) (fun d hdd => .inl fun he => hd (by rw [hdd, he])) hq]
          cases hdd : (ops[n]).dst with
          | none => rw [p2 hdd]
          | some d => rw [(p1 d hdd).2, upd_ne _ _ (fun he => hd (by rw [hdd, he]))]
      · refine hstep _ (fun d hdd => ?_) (h2 (by omega))
        by_cases hdt : d = t
        · subst hdt
          right
          by_cases hin : n = i
          · rw [hin]; exact hun
          · exact haft (by omega) hdd
        · exact .inl hdt

theorem Run.state {i : Nat} {oi : Oper} (hi : ops[i]? = some oi) (hun : L i = false) (hrd : ∀ e ∈ oi.after, Region.binds .any e = true → L e.on = true) (hk : 2 ≤ kd hint oi) :
    ∀ n, n ≤ ops.size → (n ≤ i → σX hint ops σs L n = σs n) ∧ (i ≤ n → σX hint ops σs L n = σs i)
  | 0, _ => ⟨fun _ => rfl, fun h => by have : i = 0 := by omega
                                       subst this; rfl⟩
  | n + 1, hn => by
    obtain ⟨h1, h2⟩ := Run.state hi hun hrd hk n (by omega)
    have ho : ops[n]? = some ops[n] := Array.getElem?_eq_getElem (by omega)
    have hlo : n < i → σX hint ops σs L (n + 1) = σs (n + 1) := fun hlt => by
      simp only [σX, ho]
      by_cases hk2 : 2 ≤ kd hint (ops[n])
      · have hL : L n = true := Run.prev hR hD hcl hi hrd ((okD_spec hD hi).2 n _ ho hlt (dep_two hk2 hk)) (by omega)
        simp only [hL, hk2, if_true]
      · have hq := h1 (by omega)
        rw [Run.kept hR hD hcl ho (by omega)]
        cases hL : L n <;> simp only [hk2, if_false, hq]
    refine ⟨fun hle => hlo (by omega), fun hle => ?_⟩
    by_cases hni : n + 1 = i
    · subst hni; exact hlo (by omega)
    · have hq := h2 (by omega)
      simp only [σX, ho]
      by_cases hk2 : 2 ≤ kd hint (ops[n])
      · have hL : L n = false := by
          by_cases hin : n = i
          · rw [hin]; exact hun
          · cases hL : L n with
            | false => rfl
            | true =>
              have := Run.next hR hD hcl ((okD_spec hD ho).2 i oi hi (by omega) (dep_two hk hk2)) hL
              rw [hun] at this; cases this
        simp only [hL, hq]
      · cases hL : L n <;> simp only [hk2, if_false, hq]

/-- An operation that reads: where it is carried out, just new things may be there that were not, or not be there that were. -/
theorem Run.reads {i : Nat} {oi : Oper} (hi : ops[i]? = some oi) (hun : L i = false) (hrd : ∀ e ∈ oi.after, Region.binds .any e = true → L e.on = true) (hk : kd hint oi = 1) (hfr : free hint oi = false) :
    ∀ n, n ≤ ops.size → (n ≤ i → ∃ j, j ≤ n ∧ σX hint ops σs L n = σs j ∧ ∀ k o, j ≤ k → k < n → ops[k]? = some o → kd hint o ≠ 2) ∧
      (i ≤ n → ∃ j, j ≤ ops.size ∧ σX hint ops σs L n = σs j ∧ ∀ k o, (j ≤ k ∧ k < i) ∨ (i ≤ k ∧ k < j) → ops[k]? = some o → kd hint o ≠ 2)
  | 0, _ => ⟨fun _ => ⟨0, Nat.le_refl _, rfl, fun k o h1 h2 => by omega⟩, fun h => ⟨0, Nat.zero_le _, rfl, fun k o h1 => by omega⟩⟩
  | n + 1, hn => by
    obtain ⟨h1, h2⟩ := Run.reads hi hun hrd hk hfr n (by omega)
    have ho : ops[n]? = some ops[n] := Array.getElem?_eq_getElem (by omega)
    have hlo : n < i → ∃ j, j ≤ n + 1 ∧ σX hint ops σs L (n + 1) = σs j ∧ ∀ k o, j ≤ k → k < n + 1 → ops[k]? = some o → kd hint o ≠ 2 := fun hlt => by
      obtain ⟨j, q1, q2, q3⟩ := h1 (by omega)
      by_cases hk2 : kd hint (ops[n]) = 2
      · have hL : L n = true := Run.prev hR hD hcl hi hrd ((okD_spec hD hi).2 n _ ho hlt (by unfold depD; simp [hk2, hk, hfr])) (by omega)
        exact ⟨n + 1, Nat.le_refl _, by simp only [σX, ho, hL, hk2, Nat.le_refl, if_true], fun k o a b => by omega⟩
      · have more : ∀ k o, j ≤ k → k < n + 1 → ops[k]? = some o → kd hint o ≠ 2 := fun k o a b hko => by
          by_cases hkn : k = n
          · subst hkn; rw [ho, Option.some.injEq] at hko; subst hko; exact hk2
          · exact q3 k o a (by omega) hko
        cases hL : L n with
        | false => exact ⟨j, by omega, by simp only [σX, ho, hL]; exact q2, more⟩
        | true =>
          by_cases hk3 : 2 ≤ kd hint (ops[n])
          · exact ⟨n + 1, Nat.le_refl _, by simp only [σX, ho, hL, hk3, if_true], fun k o a b => by omega⟩
          · exact ⟨j, by omega, by simp only [σX, ho, hL, hk3, if_false]; exact q2, more⟩
    refine ⟨fun hle => hlo (by omega), fun hle => ?_⟩
    by_cases hni : n + 1 = i
    · obtain ⟨j, q1, q2, q3⟩ := hlo (by omega)
      exact ⟨j, by omega, q2, fun k o a => q3 k o (by omega) (by omega)⟩
    · obtain ⟨j, q1, q2, q3⟩ := h2 (by omega)
      cases hL : L n with
      | false => exact ⟨j, q1, by simp only [σX, ho, hL]; exact q2, q3⟩
      | true =>
        by_cases hk3 : 2 ≤ kd hint (ops[n])
        · refine ⟨n + 1, hn, by simp only [σX, ho, hL, hk3, if_true], fun k o a hko hk2 => ?_⟩
          have hkL : ∀ k o, k ≤ n → ops[k]? = some o → kd hint o = 2 → L k = true := fun k o hkn hko hk2 => by
            by_cases he : k = n
            · subst he; exact hL
            · exact Run.next hR hD hcl ((okD_spec hD ho).2 k o hko (by omega) (dep_two (by omega) hk3)) hL
          have hki : i < k := by
            rcases Nat.lt_or_ge i k with h | h
            · exact h
            · have : k = i := by omega
              subst this
              rw [hi, Option.some.injEq] at hko; subst hko; omega
          have hLk := hkL k o (by omega) hko hk2
          have := Run.next hR hD hcl ((okD_spec hD hko).2 i oi hi hki (by unfold depD; simp [hk2, hk, hfr])) hLk
          rw [hun] at this; cases this
        · exact ⟨j, q1, by simp only [σX, ho, hL, hk3, if_false]; exact q2, q3⟩

/-- One operation more. -/
theorem Run.more {L' : Nat → Bool} {i : Nat} {oi : Oper} (hi : ops[i]? = some oi) (hun : L i = false) (hL' : ∀ k, L' k = if k = i then true else L k) :
    ∀ n, n ≤ ops.size → (n ≤ i → frX ops frs vs L' n = frX ops frs vs L n ∧ σX hint ops σs L' n = σX hint ops σs L n) ∧
      (i < n → (∀ d, oi.dst = some d → frX ops frs vs L' n = upd (frX ops frs vs L n) d (vs i)) ∧ (oi.dst = none → frX ops frs vs L' n = frX ops frs vs L n) ∧
        σX hint ops σs L' n = if 2 ≤ kd hint oi then σs (i + 1) else σX hint ops σs L n)
  | 0, _ => ⟨fun _ => ⟨rfl, rfl⟩, fun h => by omega⟩
  | n + 1, hn => by
    obtain ⟨h1, h2⟩ := Run.more hi hun hL' n (by omega)
    have ho : ops[n]? = some ops[n] := Array.getElem?_eq_getElem (by omega)
    refine ⟨fun hle => ?_, fun hlt => ?_⟩
    · have hne : L' n = L n := by rw [hL', if_neg (by omega)]
      obtain ⟨q1, q2⟩ := h1 (by omega)
      simp only [frX, σX, hne, q1, q2]
      exact ⟨trivial, trivial⟩
    · by_cases hni : n = i
      · subst hni
        obtain ⟨q1, q2⟩ := h1 (by omega)
        have hL1 : L' n = true := by rw [hL', if_pos rfl]
        rw [hi] at ho
        simp only [Option.some.injEq] at ho
        refine ⟨fun d hd => ?_, fun hd => ?_, ?_⟩
        · simp only [frX, hi, Option.bind_some, hL1, hun, hd, q1]
        · simp only [frX, hi, Option.bind_some, hL1, hun, hd, q1]
        · simp only [σX, hi, hL1, hun, q2]
      · obtain ⟨q1, q2, q3⟩ := h2 (by omega)
        have hne : L' n = L n := by rw [hL', if_neg hni]
        have hdep : L n = true → depD hint ops oi ops[n] = true → False := fun hL hd => by
          have := Run.next hR hD hcl ((okD_spec hD ho).2 i oi hi (by omega) hd) hL
          rw [hun] at this; cases this
        refine ⟨fun d hd => ?_, fun hd => ?_, ?_⟩
        · simp only [frX, ho, Option.bind_some, hne]
          cases hL : L n with
          | false => simp only; exact q1 d hd
          | true =>
            cases hdd : (ops[n]).dst with
            | none => simp only; exact q1 d hd
            | some d' =>
              simp only
              have hdd' : d' ≠ d := fun he => hdep hL (by unfold depD; rw [hd, hdd, he]; simp)
              rw [q1 d hd]
              funext t
              by_cases ht : t = d'
              · subst ht; rw [upd_same, upd_ne _ _ hdd', upd_same]
              · by_cases ht2 : t = d
                · subst ht2; rw [upd_ne _ _ ht, upd_same, upd_same]
                · rw [upd_ne _ _ ht, upd_ne _ _ ht2, upd_ne _ _ ht2, upd_ne _ _ ht]
        · simp only [frX, ho, Option.bind_some, hne]
          cases hL : L n <;> cases hdd : (ops[n]).dst <;> simp only [q2 hd]
        · simp only [σX, ho, hne]
          cases hL : L n with
          | false => simp only; exact q3
          | true =>
            simp only
            by_cases hk2 : 2 ≤ kd hint (ops[n])
            · have hk0 : kd hint oi < 2 := by
                rcases Nat.lt_or_ge (kd hint oi) 2 with h | h
                · exact h
                · exact (hdep hL (dep_two h hk2)).elim
              rw [if_pos hk2, if_neg (by omega), if_pos hk2]
            · rw [if_neg hk2, if_neg hk2]; exact q3
end states

theorem Run.wf {frs : Nat → Nat → V} {σs : Nat → St} {vs : Nat → V} (hR : Run P τ hint nt ops frs σs vs) (hW : (σs 0).WF) : ∀ n, n ≤ ops.size → (σs n).WF
  | 0, _ => hW
  | n + 1, hn => by
    have ih := Run.wf hR hW n (by omega)
    obtain ⟨b, _, h1, h2⟩ := hR.step n _ (Array.getElem?_eq_getElem (by omega))
    cases b with
    | true => exact (h1 rfl).wf ih
    | false => rw [(h2 rfl).2]; exact ih
theorem Run.up {frs : Nat → Nat → V} {σs : Nat → St} {vs : Nat → V} (hR : Run P τ hint nt ops frs σs vs) {i : Nat} : ∀ j, i ≤ j → j ≤ ops.size → (∀ k o, i ≤ k → k < j → ops[k]? = some o → kd hint o ≠ 2) → (σs i).Up (σs j)
  | 0, h, _, _ => by have : i = 0 := by omega
                     subst this; exact .refl _
  | j + 1, h, hj, hk => by
    by_cases he : i = j + 1
    · subst he; exact .refl _
    · have ih := Run.up hR j (by omega) (by omega) fun k o a b => hk k o a (by omega)
      have ho : ops[j]? = some ops[j] := Array.getElem?_eq_getElem (by omega)
      obtain ⟨b, _, h1, h2⟩ := hR.step j _ ho
      refine ih.trans ?_
      cases b with
      | true => exact (h1 rfl).up (hk j _ (by omega) (by omega) ho)
      | false => rw [(h2 rfl).2]; exact .refl _
theorem Run.agree {frs : Nat → Nat → V} {σs : Nat → St} {vs : Nat → V} (hR : Run P τ hint nt ops frs σs vs) {i j : Nat} (hi : i ≤ ops.size) (hj : j ≤ ops.size) (hk : ∀ k o, (j ≤ k ∧ k < i) ∨ (i ≤ k ∧ k < j) → ops[k]? = some o → kd hint o ≠ 2) :
    ∀ o, o < (σs i).n → o < (σs j).n → (σs j).h o = (σs i).h o := by
  intro o h1 h2
  rcases Nat.le_total i j with h | h
  · exact (hR.up j h hj fun k o a b => hk k o (.inr ⟨a, b⟩)).2 o h1
  · exact ((hR.up i h hi fun k o a b => hk k o (.inl ⟨a, b⟩)).2 o h2).symm
theorem StRel.wf {C : Cx} {σ : St} (h : StRel C σ) : σ.WF := fun o ho => by
  cases hx : σ.h o with
  | none => rfl
  | some x =>
    exfalso
    have hm : C.m o ≠ .none := by
      cases x with
      | cells cs =>
        obtain ⟨g, hg, _⟩ := h.obj o cs hx
        rw [hg]; simp
      | tok e =>
        rcases h.tok o e hx with ⟨a, ha⟩ | ⟨a, n, cap, sz, xs, ha, _⟩
        · rw [ha]; simp
        · rw [ha]; simp
    have := h.id o hm
    omega

/-- What is known is always what is known somewhere on the way. -/
theorem σX_some {σs : Nat → St} {L : Nat → Bool} : ∀ n, n ≤ ops.size → ∃ j, j ≤ ops.size ∧ σX hint ops σs L n = σs j
  | 0, _ => ⟨0, Nat.zero_le _, rfl⟩
  | n + 1, hn => by
    obtain ⟨j, h1, h2⟩ := σX_some (σs := σs) (L := L) n (by omega)
    simp only [σX]
    split
    · split
      · exact ⟨n + 1, hn, rfl⟩
      · exact ⟨j, h1, h2⟩
    · exact ⟨j, h1, h2⟩
theorem Run.still {frs : Nat → Nat → V} {σs : Nat → St} {vs : Nat → V} (hR : Run P τ hint nt ops frs σs vs) {a : Nat} : ∀ b, a ≤ b → b ≤ ops.size → (∀ k o, a ≤ k → k < b → ops[k]? = some o → kd hint o < 2) → σs b = σs a
  | 0, h, _, _ => by have : a = 0 := by omega
                     subst this; rfl
  | b + 1, h, hb, hk => by
    by_cases he : a = b + 1
    · subst he; rfl
    · have ih := Run.still hR b (by omega) (by omega) fun k o h1 h2 => hk k o h1 (by omega)
      have ho : ops[b]? = some ops[b] := Array.getElem?_eq_getElem (by omega)
      obtain ⟨c, _, h1, h2⟩ := hR.step b _ ho
      rw [← ih]
      cases c with
      | true => exact (h1 rfl).kd1 (hk b _ (by omega) (by omega) ho)
      | false => exact (h2 rfl).2
theorem Run.stay {frs : Nat → Nat → V} {σs : Nat → St} {vs : Nat → V} (hR : Run P τ hint nt ops frs σs vs) {a t : Nat} : ∀ b, a ≤ b → b ≤ ops.size → (∀ k o, a ≤ k → k < b → ops[k]? = some o → o.dst ≠ some t) → frs b t = frs a t
  | 0, h, _, _ => by have : a = 0 := by omega
                     subst this; rfl
  | b + 1, h, hb, hk => by
    by_cases he : a = b + 1
    · subst he; rfl
    · have ih := Run.stay hR b (by omega) (by omega) fun k o h1 h2 => hk k o h1 (by omega)
      have ho : ops[b]? = some ops[b] := Array.getElem?_eq_getElem (by omega)
      obtain ⟨p1, p2⟩ := hR.put b _ ho
      rw [← ih]
      cases hd : (ops[b]).dst with
      | none => rw [p2 hd]
      | some d => rw [(p1 d hd).2, upd_ne _ _ (fun he => hk b _ (by omega) (by omega) ho (by rw [hd, he]))]

/-- The loads that may come at either side of the store: at the region's end they would read the same. -/
def zld (τ : TypeId → Option TyD) (n : Nat) (fr : Nat → V) (σ : St) (t : TypeId) (x : Operand) (d : Nat) : Prop := n = 4 → vload τ σ t (veval fr x) = some (fr d)
def late1 (τ : TypeId → Option TyD) (hint : Nat → Nat) (fr : Nat → V) (σ : St) (o : Op) (ds : Option Nat) : Prop := match o, ds with
  | .load t x, some d => zld τ (hint d) fr σ t x d
  | _, _ => True
def lateAll (τ : TypeId → Option TyD) (hint : Nat → Nat) : List Oper → (Nat → V) → St → Prop
  | [], _, _ => True
  | o :: l, fr, σ => late1 τ hint fr σ o.op o.dst ∧ lateAll τ hint l fr σ
def lateQ (τ : TypeId → Option TyD) (hint : Nat → Nat) (l : List Oper) (K : (Nat → V) → St → Prop) : (Nat → V) → St → Prop := fun fr σ => (hint 100000 = 0 ∨ lateAll τ hint l fr σ) ∧ K fr σ
theorem lateAll_at {fr : Nat → V} {σ : St} : ∀ {l : List Oper} {o : Oper}, lateAll τ hint l fr σ → o ∈ l → late1 τ hint fr σ o.op o.dst
  | [], o, _, h => by cases h
  | a :: l, o, h, hm => by
    rcases List.mem_cons.1 hm with rfl | hm
    · exact h.1
    · exact lateAll_at h.2 hm

theorem Run.late {frs : Nat → Nat → V} {σs : Nat → St} {vs : Nat → V} (hR : Run P τ hint nt ops frs σs vs) (hD : okD hint ops = true) (hl : hint 100000 = 0 ∨ lateAll τ hint ops.toList (frs ops.size) (σs ops.size))
    {i : Nat} {oi : Oper} (hi : ops[i]? = some oi) (hf : free hint oi = true) (j : Nat) (hj : j ≤ ops.size) : StepAt P τ hint oi (frs i) (σs j) (vs i) (σs j) := by
  obtain ⟨t, x, d, e1, e2, e3, e4⟩ := free_load hf
  obtain ⟨hg, hall⟩ := okD_free hD hi hf
  have hlt := (Array.getElem?_eq_some_iff.1 hi).1
  have hla := hl.resolve_left e4
  obtain ⟨b, hw, hs1, -⟩ := hR.step i oi hi
  have hb : b = true := by
    unfold wantedV at hw
    rw [hg] at hw
    simpa using hw.symm
  have hkd : kd hint oi < 2 := by unfold kd; rw [e1]; simp
  have hat := hs1 hb
  have hkk := hat.kd1 hkd
  rw [hkk] at hat
  by_cases hc : ∀ k o, (i ≤ k ∧ k < j) ∨ (j ≤ k ∧ k < i) → ops[k]? = some o → kd hint o < 2
  · have : σs j = σs i := by
      rcases Nat.le_total i j with h | h
      · exact hR.still j h hj fun k o h1 h2 => hc k o (.inl ⟨h1, h2⟩)
      · exact (hR.still i h (by omega) fun k o h1 h2 => hc k o (.inr ⟨h1, h2⟩)).symm
    rw [this]; exact hat
  · obtain ⟨s, hc⟩ := Classical.not_forall.1 hc
    obtain ⟨os, hc⟩ := Classical.not_forall.1 hc
    obtain ⟨h1, hc⟩ := Classical.not_imp.1 hc
    obtain ⟨h2, hc⟩ := Classical.not_imp.1 hc
    obtain ⟨q1, q2⟩ := (hall s os h2).2 (by omega)
    have hsj : s < j := by omega
    have hfin : σs ops.size = σs j := hR.still ops.size hj (Nat.le_refl _) fun k o h3 h4 h5 => q2 k o h5 (by omega)
    have hlate := lateAll_at hla (o := oi) (List.mem_of_getElem? (i := i) ((Array.getElem?_toList).trans hi))
    rw [e1, e2, hfin] at hlate
    have hlate := hlate e3
    have hdv : frs ops.size d = vs i := by
      obtain ⟨p1, _⟩ := hR.put i oi hi
      rw [hR.stay (a := i + 1) ops.size (by omega) (Nat.le_refl _) fun k o h3 h4 h5 h6 => ((hall k o h5).1 (by omega) d h6).2 (by omega) e2, (p1 d e2).2, upd_same]
    have hx : veval (frs ops.size) x = veval (frs i) x := by
      cases x with
      | tmp u => exact hR.stay (a := i) ops.size (by omega) (Nat.le_refl _) fun k o h3 h4 h5 h6 => ((hall k o h5).1 h3 u h6).1 (by rw [e1]; simp [tmpsOf, Op.operands])
      | _ => rfl
    rw [hdv, hx] at hlate
    unfold StepAt vstep
    rw [e1]
    simp only
    unfold vop
    simp only [e1, hlate, Option.map_some]
    exact ⟨trivial, trivial⟩

theorem draw_go (hτ : TyOk P τ) (hD : okD hint ops = true) {C : Cx} {a0 : Act} {frs : Nat → Nat → V} {σs : Nat → St} {vs : Nat → V} (hR : Run P τ hint nt ops frs σs vs) (hW : (σs 0).WF) {K : (Nat → V) → St → Prop} {Q : Exit → Act → World → Prop}
    (hlate : hint 100000 = 0 ∨ lateAll τ hint ops.toList (frs ops.size) (σs ops.size)) (hK : K (frs ops.size) (σs ops.size)) (hQ : ∀ C' fr' σ' a', Ext' C C' → StRel C' σ' → FrRel C' fr' a' → nt ≤ a'.tmps.size → a'.defers = a0.defers → K fr' σ' → Q .normal a' C'.w) :
    ∀ (fuel : Nat) (listed : Array Bool) (C' : Cx) (a : Act), listed.size = ops.size → (∀ (j : Nat) o, ops[j]? = some o → listed.getD j false = true → ∀ e ∈ o.after, Region.binds .any e = true → listed.getD e.on false = true) →
      ((List.range ops.size).filter fun i => !listed.getD i false).length ≤ fuel → Ext' C C' → StRel C' (σX hint ops σs (fun k => listed.getD k false) ops.size) → FrRel C' (frX ops frs vs (fun k => listed.getD k false) ops.size) a → nt ≤ a.tmps.size → a.defers = a0.defers →
      wpAnyIn (Fr ro) 0 P .any ops Q fuel listed a C'.w := by
  have fin : ∀ (listed : Array Bool) (C' : Cx) (a : Act), listed.size = ops.size → (∀ (j : Nat) o, ops[j]? = some o → listed.getD j false = true → ∀ e ∈ o.after, Region.binds .any e = true → listed.getD e.on false = true) →
      Ext' C C' → StRel C' (σX hint ops σs (fun k => listed.getD k false) ops.size) → FrRel C' (frX ops frs vs (fun k => listed.getD k false) ops.size) a → nt ≤ a.tmps.size → a.defers = a0.defers → (∀ j, j < ops.size → listed.getD j false = true) → Q .normal a C'.w := by
    intro listed C' a hsz hcl hx hσ hf hn hd hall
    obtain ⟨q1, q2⟩ := Run.all hR hD hcl hall ops.size (Nat.le_refl _)
    rw [q1] at hf
    rw [q2] at hσ
    exact hQ C' _ _ a hx hσ hf hn hd hK
  have allOf : ∀ (listed : Array Bool), listed.size = ops.size → Region.ready .any ops listed = [] → ∀ j, j < ops.size → listed.getD j false = true := by
    intro listed hsz hr j
    induction j using Nat.strongRecOn with
    | _ j ih =>
      intro hj
      cases hL : listed.getD j false with
      | true => rfl
      | false =>
        have ho : ops[j]? = some ops[j] := Array.getElem?_eq_getElem hj
        have hm : j ∈ Region.ready .any ops listed := mem_ready.2 ⟨by
          have hlt : j < listed.size := by omega
          simp only [Array.getD_eq_getD_getElem?, Array.getElem?_eq_getElem hlt, Option.getD_some] at hL ⊢
          exact hL, _, ho, fun e he hb => by
          have hlt := (okD_spec hD ho).1 e he hb
          exact ih e.on hlt (by omega)⟩
        rw [hr] at hm; cases hm
  intro fuel
  induction fuel with
  | zero =>
    intro listed C' a hsz hcl hcnt hx hσ hf hn hd
    have hall : ∀ j, j < ops.size → listed.getD j false = true := by
      intro j hj
      cases hL : listed.getD j false with
      | true => rfl
      | false =>
        have : j ∈ (List.range ops.size).filter fun i => !listed.getD i false := List.mem_filter.2 ⟨by simpa using hj, by simp [hL]⟩
        have h0 := List.eq_nil_of_length_eq_zero (Nat.le_zero.1 hcnt)
        rw [h0] at this; cases this
    refine ⟨?_, fin listed C' a hsz hcl hx hσ hf hn hd hall⟩
    cases hr : Region.ready .any ops listed with
    | nil => rfl
    | cons j r =>
      have hm : j ∈ Region.ready .any ops listed := by rw [hr]; simp
      obtain ⟨h1, o, ho, _⟩ := mem_ready.1 hm
      have hj := (Array.getElem?_eq_some_iff.1 ho).1
      have h2 := hall j hj
      have hlt : j < listed.size := by omega
      simp only [Array.getD_eq_getD_getElem?, Array.getElem?_eq_getElem hlt, Option.getD_some] at h1 h2
      rw [h1] at h2; cases h2
  | succ fuel ih =>
    intro listed C' a hsz hcl hcnt hx hσ hf hn hd
    refine ⟨fun hr => fin listed C' a hsz hcl hx hσ hf hn hd (allOf listed hsz hr), fun i hi => ?_⟩
    obtain ⟨hu, oi, hoi, hrd⟩ := mem_ready.1 hi
    have hilt := (Array.getElem?_eq_some_iff.1 hoi).1
    have hun : listed.getD i false = false := by
      have hlt : i < listed.size := by omega
      simp only [Array.getD_eq_getD_getElem?, Array.getElem?_eq_getElem hlt, Option.getD_some] at hu ⊢
      exact hu
    have hL' : ∀ k, (listed.setIfInBounds i true).getD k false = if k = i then true else listed.getD k false := by
      intro k
      simp only [Array.getD_eq_getD_getElem?, Array.getElem?_setIfInBounds]
      by_cases hk : i = k
      · subst hk; simp [hsz, hilt]
      · rw [if_neg hk, if_neg (Ne.symm hk)]
    obtain ⟨m1, m2, m3⟩ := (Run.more hR hD hcl hoi hun hL' ops.size (Nat.le_refl _)).2 hilt
    have hcl' : ∀ (j : Nat) o, ops[j]? = some o → (listed.setIfInBounds i true).getD j false = true → ∀ e ∈ o.after, Region.binds .any e = true → (listed.setIfInBounds i true).getD e.on false = true := by
      intro j o ho hj e he hb
      rw [hL'] at hj ⊢
      split
      · rfl
      · split at hj
        · rename_i hji; subst hji; rw [hoi] at ho; cases ho; exact hrd e he hb
        · exact hcl j o ho hj e he hb
    have hcnt' : ((List.range ops.size).filter fun k => !(listed.setIfInBounds i true).getD k false).length ≤ fuel := by
      have hsub : ∀ l : List Nat, l.Nodup → (l.filter fun k => !(listed.setIfInBounds i true).getD k false).length + (if i ∈ l then 1 else 0) ≤ (l.filter fun k => !listed.getD k false).length := by
        intro l
        induction l with
        | nil => intro _; simp
        | cons x l ihl =>
          intro hnd
          obtain ⟨hx1, hnd'⟩ := List.nodup_cons.1 hnd
          have := ihl hnd'
          simp only [List.filter_cons, hL']
          by_cases hxi : x = i
          · subst hxi
            simp only [if_true, Bool.not_true, Bool.false_eq_true, if_false, hun, Bool.not_false, List.length_cons, List.mem_cons, true_or]
            simp only [hx1, if_false, Nat.add_zero, hL'] at this
            omega
          · simp only [hxi, if_false, List.mem_cons, Ne.symm hxi, false_or]
            simp only [hL'] at this
            split
            · simp only [List.length_cons]; omega
            · exact this
      have := hsub (List.range ops.size) List.nodup_range
      simp only [List.mem_range, hilt, if_true] at this
      omega
    -- the operation itself
    have hslots : ∀ t, t ∈ looks ops oi → frX ops frs vs (fun k => listed.getD k false) ops.size t = frs i t := fun t ht => (Run.slot hR hD hcl hoi hun hrd (.inl ht) ops.size (Nat.le_refl _)).2 (by omega)
    obtain ⟨b, hw, hs1, hs2⟩ := hR.step i oi hoi
    obtain ⟨p1, p2⟩ := hR.put i oi hoi
    have hw' : wantedV ops (frX ops frs vs (fun k => listed.getD k false) ops.size) oi = some b := by rw [wantedV_congr hslots]; exact hw
    have hev := eval_of_slots (fr := frs i) (fr2 := frX ops frs vs (fun k => listed.getD k false) ops.size) (o := oi) (fun t ht => hslots t (List.mem_append_left _ ht))
    have hput : ∀ (C'' : Cx) (c : Value), Ext' C' C'' → StRel C'' (σX hint ops σs (fun k => (listed.setIfInBounds i true).getD k false) ops.size) → VRel C'' (vs i) c → wpAnyIn (Fr ro) 0 P .any ops Q fuel (listed.setIfInBounds i true) (a.put oi.dst c) C''.w := by
      intro C'' c hx' hσ' hv
      have hf'' := hf.mono hx'.toExt
      refine ih (listed.setIfInBounds i true) C'' _ (by simpa using hsz) hcl' hcnt' (hx.trans hx') hσ' ?_ ?_ ?_
      · cases hdst : oi.dst with
        | some d =>
          rw [m1 d hdst]
          exact hf''.put (Nat.lt_of_lt_of_le (p1 d hdst).1 hn) hv
        | none => rw [m2 hdst]; exact hf''
      · cases oi.dst <;> simp [Act.put] <;> exact hn
      · cases oi.dst <;> exact hd
    unfold wpOpIn
    simp only [hoi]
    rw [wanted_ok hf hw']
    cases b with
    | true =>
      rw [if_pos rfl]
      have hat := hs1 rfl
      have hat' : vstep P τ hint false oi (frX ops frs vs (fun k => listed.getD k false) ops.size) (σX hint ops σs (fun k => listed.getD k false) ops.size) (fun v1 σ1 => v1 = vs i ∧ σ1 = σX hint ops σs (fun k => (listed.setIfInBounds i true).getD k false) ops.size) := by
        rw [m3]
        by_cases hk0 : kd hint oi = 0
        · rw [hk0, if_neg (by omega)]
          exact (vstep_congr hev).2 (hat.kd0 hk0 _)
        · by_cases hk2 : 2 ≤ kd hint oi
          · have hst := (Run.state hR hD hcl hoi hun hrd hk2 ops.size (Nat.le_refl _)).2 (by omega)
            rw [hst, if_pos hk2]; exact (vstep_congr hev).2 hat
          · rw [if_neg hk2]
            have hkk := hat.kd1 (by omega)
            have hat2 : StepAt P τ hint oi (frX ops frs vs (fun k => listed.getD k false) ops.size) (σs i) (vs i) (σs i) := by
              have := (vstep_congr (P := P) (τ := τ) (hint := hint) (ref := false) (σ := σs i) (K := fun v1 σ1 => v1 = vs i ∧ σ1 = σs (i + 1)) hev).2 hat
              rw [hkk] at this
              exact this
            cases hfree : free hint oi with
            | true =>
              obtain ⟨j, hj, hje⟩ := σX_some (hint := hint) (ops := ops) (σs := σs) (L := fun k => listed.getD k false) ops.size (Nat.le_refl _)
              rw [hje]
              exact (vstep_congr hev).2 (hR.late hD hlate hoi hfree j hj)
            | false =>
            obtain ⟨j, hj, hje, hjk⟩ := (Run.reads hR hD hcl hoi hun hrd (by omega) hfree ops.size (Nat.le_refl _)).2 (by omega)
            have hag := hR.agree (i := i) (j := j) (by omega) hj hjk
            rw [hje] at hσ ⊢
            exact hat2.reads (hR.wf hW i (by omega)) hag hσ hf (by omega)
      refine vstep_ok hτ hσ hf hat' fun C'' σ' v c x1 x2 x3 x4 => ?_
      obtain ⟨rfl, rfl⟩ := x4
      exact hput C'' c x1 x2 x3
    | false =>
      rw [if_neg (by simp)]
      refine ⟨fun _ _ => trivial, ?_⟩
      obtain ⟨hv, hs⟩ := hs2 rfl
      have hσe : σX hint ops σs (fun k => (listed.setIfInBounds i true).getD k false) ops.size = σX hint ops σs (fun k => listed.getD k false) ops.size := by
        rw [m3]
        split
        · rename_i hk2
          rw [hs, (Run.state hR hD hcl hoi hun hrd hk2 ops.size (Nat.le_refl _)).2 (by omega)]
        · rfl
      exact hput C' undef (.refl _) (by rw [hσe]; exact hσ) (by rw [hv]; exact skip_rel _)

theorem draw_ok (hτ : TyOk P τ) (hD : okD hint ops = true) {C : Cx} {σ : St} (hσ : StRel C σ) {fr : Nat → V} {a : Act} (hf : FrRel C fr a) (hn : nt ≤ a.tmps.size) {K : (Nat → V) → St → Prop} {Q : Exit → Act → World → Prop}
    (h : vops P τ hint nt ops false ops.toList fr σ (lateQ τ hint ops.toList K)) (hQ : ∀ C' fr' σ' a', Ext' C C' → StRel C' σ' → FrRel C' fr' a' → nt ≤ a'.tmps.size → a'.defers = a.defers → K fr' σ' → Q .normal a' C'.w) :
    wpAnyIn (Fr ro) 0 P .any ops Q ops.size (Array.replicate ops.size false) a { C.w with drawn := C.w.drawn + 1 } := by
  obtain ⟨frs, σs, vs, e1, e2, e3, e4, e5⟩ := vops_run ops.toList 0 fr σ rfl h
  have hR : Run P τ hint nt ops frs σs vs := ⟨fun i o ho => e4 i o (Nat.zero_le _) ho, fun i o ho => e5 i o (Nat.zero_le _) ho⟩
  simp only [Nat.zero_add, Array.length_toList] at e3
  obtain ⟨g1, g2⟩ := hσ.grow (w' := C.w.drew) (Below.refl _ _).drew
  have hnone : ∀ k, (Array.replicate ops.size false).getD k false = false := by
    intro k
    simp only [Array.getD_eq_getD_getElem?, Array.getElem?_replicate]
    split <;> rfl
  have hfr0 : ∀ (L : Nat → Bool), (∀ k, L k = false) → ∀ n, frX ops frs vs L n = frs 0 := by
    intro L hL n
    induction n with
    | zero => rfl
    | succ n ih => simp only [frX, hL, ih]
  have hσ0 : ∀ (L : Nat → Bool), (∀ k, L k = false) → ∀ n, σX hint ops σs L n = σs 0 := by
    intro L hL n
    induction n with
    | zero => rfl
    | succ n ih => simp only [σX, hL, ih]
  refine draw_go hτ hD hR (by rw [e2]; exact hσ.wf) e3.1 e3.2 hQ ops.size _ { C with w := C.w.drew } a (by simp) (fun j o ho hj => by rw [hnone] at hj; cases hj) ?_ g1 (by rw [hσ0 _ hnone, e2]; exact g2) (by rw [hfr0 _ hnone, e1]; exact hf.mono g1.toExt) hn rfl
  exact Nat.le_trans (List.length_filter_le _ _) (by simp)
end
end Go.Vx
