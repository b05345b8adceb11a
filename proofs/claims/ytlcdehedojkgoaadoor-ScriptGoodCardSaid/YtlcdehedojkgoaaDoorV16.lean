/- A program's own table of types, as values without memory want it; the words in which code is read. -/
import Derived.Test.YtlcdehedojkgoaaDoorV15
import Derived.IntWalk
namespace Go.Vx
open Go.RowKit Go.Fl
set_option linter.unusedVariables false

def fieldsOk (P : Program) (t : TypeId) (d : TypeDesc) : Bool := match d with
  | .struct gs => (gs.toList.mapM (fun f => (P.info? f.type).map fun i => (f.offset, i.size))).isSome && (!(gs.toList.all fun f => flatEq P f.type) || (!P.stoodInHeld t && !P.eqGuardType P.depth t && gs.toList.all fun f => f.name != "_"))
  | _ => true

def tyOf (P : Program) (t : TypeId) : Option TyD :=
  match P.underlying t, P.info? t with
  | some d, some i => match i.zero with
    | some z =>
      if (z.cells.toList.map toV1).all V.one && (z.cells.toList.map toV1).length == i.size && fieldsOk P t d then some ⟨tdOf d, i.size, i.bytes, z.cells.toList.map toV1⟩ else none
    | none => none
  | _, _ => none

theorem tyOf_ok (P : Program) : TyOk P (tyOf P) := by
  intro t D h
  unfold tyOf at h
  split at h <;> first | (cases h; done) | skip
  rename_i d i hd hi
  split at h <;> first | (cases h; done) | skip
  rename_i z hz
  split at h <;> first | (cases h; done) | skip
  rename_i hc
  simp only [Bool.and_eq_true, beq_iff_eq] at hc
  simp only [Option.some.injEq] at h
  subst h
  have hf : ∀ gs, P.underlying t = some (.struct gs) → fieldsOk P t (.struct gs) = true := fun gs hg => by
    rw [hd, Option.some.injEq] at hg
    subst hg
    exact hc.2
  refine ⟨by rw [hd]; rfl, ⟨i, z, hi, rfl, rfl, hz, rfl⟩, hc.1.1, hc.1.2, fun gs hg => ?_, fun gs hg hfl => ?_⟩
  · have := hf gs hg
    unfold fieldsOk at this
    simp only [Bool.and_eq_true] at this
    exact Option.isSome_iff_exists.1 this.1
  · have := hf gs hg
    unfold fieldsOk at this
    simp only [Bool.and_eq_true, Bool.or_eq_true, Bool.not_eq_true'] at this
    rcases this.2 with h | h
    · rw [List.all_eq_true.2 hfl] at h; cases h
    · refine ⟨h.1.1, h.1.2, fun f hm => ?_⟩
      have := List.all_eq_true.1 h.2 f hm
      simpa using this

/-- Slots by their number. -/
theorem upd_at {α : Type} (f : Nat → α) (k j : Nat) (x : α) : upd f k x j = if j = k then x else f j := rfl
theorem initFr_at (args : List V) (t : Nat) : initFr args t = (args[t]?).getD .undef := rfl


/-- Whole numbers that stay within their kind. -/
theorem wrap_i64 {x : Int} (h0 : -9223372036854775808 ≤ x) (h1 : x ≤ 9223372036854775807) : IntKind.i64.wrap x = x := IntWalk.i64_in x ⟨h0, h1⟩
theorem wrap_i32 {x : Int} (h0 : -2147483648 ≤ x) (h1 : x ≤ 2147483647) : IntKind.i32.wrap x = x := IntWalk.i32_in x ⟨h0, h1⟩
theorem wrap_u8 {x : Int} (h0 : 0 ≤ x) (h1 : x ≤ 255) : IntKind.u8.wrap x = x := IntWalk.u8_in x ⟨h0, h1⟩
theorem wrap_u32 {x : Int} (h0 : 0 ≤ x) (h1 : x ≤ 4294967295) : IntKind.u32.wrap x = x := IntWalk.u32_in x ⟨h0, h1⟩
theorem wrap_u64 {x : Int} (h0 : 0 ≤ x) (h1 : x ≤ 18446744073709551615) : IntKind.u64.wrap x = x := IntWalk.u64_in x ⟨h0, h1⟩
theorem quo_pos {x y : Int} (h : 0 ≤ x) : x.tdiv y = x / y := Int.tdiv_eq_ediv_of_nonneg h
theorem rem_pos {x y : Int} (h : 0 ≤ x) : x.tmod y = x % y := Int.tmod_eq_emod_of_nonneg h

/-- A loop whose rounds are numbered. -/
theorem loop_up {P : Program} {τ : TypeId → Option TyD} {hint : Nat → Nat} {nt : Nat} {x : Code} {fr : Nat → V} {σ : St} {Q : Exit → (Nat → V) → St → Prop} (n : Nat) (I : Nat → (Nat → V) → St → Prop) (h0 : I 0 fr σ)
    (hs : ∀ k fr σ, k ≤ n → I k fr σ → vwp P τ hint nt x fr σ fun e fr σ => match e with
      | .normal => k < n ∧ I (k + 1) fr σ
      | e => Q e fr σ) : vwp P τ hint nt (.loop x) fr σ Q := by
  refine ⟨fun m fr σ => ∃ k, k ≤ n ∧ m = n - k ∧ I k fr σ, ⟨n, 0, Nat.zero_le _, rfl, h0⟩, ?_⟩
  rintro m fr σ ⟨k, hk, rfl, hI⟩
  have := hs k fr σ hk hI
  refine vwp_mono ?_ _ _ _ this
  intro e fr σ h
  cases e with
  | normal => exact ⟨n - (k + 1), by omega, k + 1, by omega, rfl, h.2⟩
  | _ => exact h

theorem flatL_bv (l : List UInt8) : flatL ((bv l).flatMap V.cells) = true := by
  induction l with
  | nil => rfl
  | cons a l ih => simpa [bv, flatL, flat1, V.cells] using ih
theorem free_bv (l : List UInt8) (sz : Nat) (e : TypeId) : (V.sl sz (bv l) (.own e)).free = true := flatL_bv l
theorem int_lt0 (k : Nat) : ((k : Int) < 0) = False := by simp
theorem int_le0 (k : Nat) : ((0 : Int) ≤ (k : Int)) = True := by simp
theorem int_beq (a b : Int) : (a == b) = decide (a = b) := by by_cases h : a = b <;> simp [h]
theorem int_bne (a b : Int) : (a != b) = !decide (a = b) := by by_cases h : a = b <;> simp [h]

/-! ### The same, in words that stop where something is not known.
Each word has a last part whose type names what is not to be looked into: a rewriter leaves that alone. -/
inductive Dep {α : Type} (a : α) : Type
  | mk

section
variable {P : Program} {τ : TypeId → Option TyD} {hint : Nat → Nat} {nt : Nat} {ops : Array Oper}

def zcond (v : V) (A B : Prop) (_ : Dep (A, B)) : Prop := match v with
  | .b t => if t = true then A else B
  | _ => False
theorem zcond_t {A B : Prop} {d : Dep (A, B)} : zcond (.b true) A B d = A := by simp [zcond]
theorem zcond_f {A B : Prop} {d : Dep (A, B)} : zcond (.b false) A B d = B := by simp [zcond]
theorem zcond_dec {p : Prop} [Decidable p] {A B : Prop} {d : Dep (A, B)} (h1 : p → A) (h2 : ¬ p → B) : zcond (.b (decide p)) A B d := by
  by_cases h : p
  · simp [zcond, h, h1]
  · simp [zcond, h, h2]
theorem zcond_b {b : Bool} {A B : Prop} {d : Dep (A, B)} (h1 : b = true → A) (h2 : b = false → B) : zcond (.b b) A B d := by
  cases b
  · simp [zcond, h2]
  · simp [zcond, h1]

def zwant (o : Option Bool) (A B : Prop) (_ : Dep (A, B)) : Prop := match o with
  | some true => A
  | some false => B
  | none => False
theorem zwant_t {A B : Prop} {d : Dep (A, B)} : zwant (some true) A B d = A := propext Iff.rfl
theorem zwant_f {A B : Prop} {d : Dep (A, B)} : zwant (some false) A B d = B := propext Iff.rfl
theorem zwant_b {b : Bool} {A B : Prop} {d : Dep (A, B)} (h1 : b = true → A) (h2 : b = false → B) : zwant (some b) A B d := by
  cases b
  · exact h2 rfl
  · exact h1 rfl

def zthen (x : Option (V × St)) (K : V → St → Prop) (_ : Dep K) : Prop := match x with
  | some (v, σ) => K v σ
  | none => False
theorem zthen_some {v : V} {σ : St} {K : V → St → Prop} {d : Dep K} : zthen (some (v, σ)) K d = K v σ := propext Iff.rfl
theorem zthen_none {K : V → St → Prop} {d : Dep K} : zthen none K d = False := propext Iff.rfl

def zcall (P : Program) (ref : Bool) (F : FuncId) (h : Nat) (σ : St) (a : Option (List V × Bool)) (vals : List V) (K : V → St → Prop) (_ : Dep K) : Prop :=
  (match a with
  | some (us, b) => ∃ r, VPure P F us r ∧ (b = true → r.free = true) ∧ K (vrecv σ h r).1 (vrecv σ h r).2
  | none => False) ∨ (ref = true ∧ VRef P F vals σ K) ∨ (h = 3 ∧ VRefX P F vals σ K)
theorem zcall_pure {ref : Bool} {F : FuncId} {h : Nat} {σ : St} {us : List V} {b : Bool} {vals : List V} {K : V → St → Prop} {d : Dep K} {r : V} (spec : VPure P F us r) (hb : b = true → r.free = true) (k : K (vrecv σ h r).1 (vrecv σ h r).2) :
    zcall P ref F h σ (some (us, b)) vals K d := .inl ⟨r, spec, hb, k⟩
theorem zcall_ref {F : FuncId} {h : Nat} {σ : St} {a : Option (List V × Bool)} {vals : List V} {K : V → St → Prop} {d : Dep K} {R : V → St → Prop} (spec : VRef P F vals σ R) (k : ∀ v σ, R v σ → K v σ) : zcall P true F h σ a vals K d :=
  .inr (.inl ⟨rfl, spec.1, fun C cargs h1 h2 h3 => (spec.2 C cargs h1 h2 h3).mono fun e w' ⟨C', σ', v, c, a1, a2, a3, a4, a5, a6⟩ => ⟨C', σ', v, c, a1, a2, a3, a4, a5, k v σ' a6⟩⟩)
theorem zcall_x {ref : Bool} {F : FuncId} {σ : St} {a : Option (List V × Bool)} {vals : List V} {K : V → St → Prop} {d : Dep K} {v : V} {σ' : St} (spec : VRef P F vals σ (fun v1 σ1 => v1 = v ∧ σ1 = σ')) (hw : σ.WF → σ'.WF) (k : K v σ') : zcall P ref F 3 σ a vals K d := .inr (.inr ⟨rfl, v, σ', hw, spec, k⟩)

def zfn (P : Program) (ref : Bool) (f : V) (h : Nat) (σ : St) (vals : List V) (K : V → St → Prop) (_ : Dep K) : Prop := match f with
  | .fn F caps => zcall P ref F h σ (vargs σ (vals ++ caps)) (vals ++ caps) K .mk
  | _ => False
theorem zfn_fn {ref : Bool} {F : FuncId} {caps : List V} {h : Nat} {σ : St} {vals : List V} {K : V → St → Prop} {d : Dep K} : zfn P ref (.fn F caps) h σ vals K d = zcall P ref F h σ (vargs σ (vals ++ caps)) (vals ++ caps) K .mk := propext Iff.rfl

def zput (nt : Nat) (o : Option Nat) (v : V) (fr : Nat → V) (K : (Nat → V) → Prop) (_ : Dep K) : Prop := match o with
  | some d => if d < nt then K (upd fr d v) else False
  | none => K fr
theorem zput_some {d : Nat} {v : V} {fr : Nat → V} {K : (Nat → V) → Prop} {e : Dep K} (h : d < nt) : zput nt (some d) v fr K e = K (upd fr d v) := if_pos h
theorem zput_none {v : V} {fr : Nat → V} {K : (Nat → V) → Prop} {e : Dep K} : zput nt none v fr K e = K fr := propext Iff.rfl

def zops (P : Program) (τ : TypeId → Option TyD) (hint : Nat → Nat) (nt : Nat) (ops : Array Oper) (ref : Bool) (l : List Oper) (fr : Nat → V) (σ : St) (K : (Nat → V) → St → Prop) (_ : Dep (ops, l, K)) : Prop := vops P τ hint nt ops ref l fr σ K
def zstep (P : Program) (τ : TypeId → Option TyD) (hint : Nat → Nat) (ref : Bool) (o : Oper) (fr : Nat → V) (σ : St) (K : V → St → Prop) (_ : Dep (o, K)) : Prop := vstepN P τ hint ref o fr σ K
theorem zops_nil {ref : Bool} {fr : Nat → V} {σ : St} {K : (Nat → V) → St → Prop} {d : Dep (ops, [], K)} : zops P τ hint nt ops ref [] fr σ K d = K fr σ := propext Iff.rfl
theorem zops_cons {ref : Bool} {o : Oper} {rest : List Oper} {fr : Nat → V} {σ : St} {K : (Nat → V) → St → Prop} {d : Dep (ops, o :: rest, K)} : zops P τ hint nt ops ref (o :: rest) fr σ K d =
    zwant (wantedV ops fr o) (zstep P τ hint ref o fr σ (fun v σ' => zput nt o.dst v fr (fun fr' => zops P τ hint nt ops ref rest fr' σ' K .mk) .mk) .mk) (zput nt o.dst (.tup []) fr (fun fr' => zops P τ hint nt ops ref rest fr' σ K .mk) .mk) .mk := by
  simp only [zops, vops, zwant]
  cases wantedV ops fr o with
  | none => rfl
  | some b => cases b <;> rfl
theorem zops_none {ref : Bool} {ds : Option Nat} {op : Op} {ty : TypeId} {pos : String} {aft : Array Edge} {rest : List Oper} {fr : Nat → V} {σ : St} {K : (Nat → V) → St → Prop} {d : Dep (ops, { dst := ds, op := op, type := ty, pos := pos, after := aft, guard := none } :: rest, K)} :
    zops P τ hint nt ops ref ({ dst := ds, op := op, type := ty, pos := pos, after := aft, guard := none } :: rest) fr σ K d =
    zstep P τ hint ref { dst := ds, op := op, type := ty, pos := "", after := #[], guard := none } fr σ (fun v σ' => zput nt ds v fr (fun fr' => zops P τ hint nt ops ref rest fr' σ' K .mk) .mk) .mk := propext Iff.rfl
theorem zops_some {ref : Bool} {ds : Option Nat} {op : Op} {ty : TypeId} {pos : String} {aft : Array Edge} {g : Nat × Bool} {rest : List Oper} {fr : Nat → V} {σ : St} {K : (Nat → V) → St → Prop} {d : Dep (ops, { dst := ds, op := op, type := ty, pos := pos, after := aft, guard := some g } :: rest, K)} :
    zops P τ hint nt ops ref ({ dst := ds, op := op, type := ty, pos := pos, after := aft, guard := some g } :: rest) fr σ K d =
    zwant (wantedV ops fr { dst := ds, op := op, type := ty, pos := "", after := #[], guard := some g }) (zstep P τ hint ref { dst := ds, op := op, type := ty, pos := "", after := #[], guard := none } fr σ (fun v σ' => zput nt ds v fr (fun fr' => zops P τ hint nt ops ref rest fr' σ' K .mk) .mk) .mk) (zput nt ds (.tup []) fr (fun fr' => zops P τ hint nt ops ref rest fr' σ K .mk) .mk) .mk := by
  rw [zops_cons]
  rfl
/-- The test of a slice for nil. -/
def znil (τ : TypeId → Option TyD) (o : Option (TypeId × Operand × Bool)) (fr : Nat → V) (σ : St) (A : Prop) (K : V → St → Prop) (_ : Dep (A, K)) : Prop := match o with
  | some (t, x, b) => vnil τ t (veval fr x) b σ K
  | none => A
theorem znil_none {fr : Nat → V} {σ : St} {A : Prop} {K : V → St → Prop} {d : Dep (A, K)} : znil τ none fr σ A K d = A := rfl
theorem znil_some {fr : Nat → V} {σ : St} {t : TypeId} {x : Operand} {b : Bool} {A : Prop} {K : V → St → Prop} {d : Dep (A, K)} : znil τ (some (t, x, b)) fr σ A K d = vnil τ t (veval fr x) b σ K := rfl
theorem nilTest_f {op : Op} : nilTest false op = none := rfl
theorem nilTest_t {op : Op} : nilTest true op = nilOf op := rfl
theorem zstep_eq {ref : Bool} {o : Oper} {fr : Nat → V} {σ : St} {K : V → St → Prop} {d : Dep (o, K)} : zstep P τ hint ref o fr σ K d = znil τ (nilTest ref o.op) fr σ (match o.op with
    | .call ⟨.value f, args, _⟩ => zfn P ref (veval fr f) (hintOf hint o) σ (args.toList.map (veval fr)) K .mk
    | _ => zthen (vop τ (fun d => hint d == 2) fr σ o) K .mk) K .mk := by
  unfold zstep vstepN znil
  cases nilTest ref o.op with
  | none => exact propext Iff.rfl
  | some p => exact propext Iff.rfl

def zwp (P : Program) (τ : TypeId → Option TyD) (hint : Nat → Nat) (nt : Nat) (c : Code) (fr : Nat → V) (σ : St) (Q : Exit → (Nat → V) → St → Prop) (_ : Dep (c, Q)) : Prop := vwp P τ hint nt c fr σ Q
section
variable {fr : Nat → V} {σ : St} {Q : Exit → (Nat → V) → St → Prop}
theorem zin {c : Code} (h : zwp P τ hint nt c fr σ Q .mk) : vwp P τ hint nt c fr σ Q := h
theorem zout {c : Code} {d : Dep (c, Q)} (h : vwp P τ hint nt c fr σ Q) : zwp P τ hint nt c fr σ Q d := h
theorem zwp_skip {d : Dep (Code.skip, Q)} : zwp P τ hint nt .skip fr σ Q d = Q .normal fr σ := propext Iff.rfl
theorem zwp_region_f {i : Nat} {l : List Oper} {d : Dep (Code.region i (List.toArray l) false, Q)} : zwp P τ hint nt (.region i (List.toArray l) false) fr σ Q d = zops P τ hint nt (List.toArray l) true l fr σ (Q .normal) .mk := propext Iff.rfl
/-- What is asked at the end of a region that draws its order. -/
def zlate (n : Nat) (τ : TypeId → Option TyD) (hint : Nat → Nat) (l : List Oper) (fr : Nat → V) (σ : St) (A : Prop) (_ : Dep (l, A)) : Prop := (n = 0 ∨ lateAll τ hint l fr σ) ∧ A
def zlates (τ : TypeId → Option TyD) (hint : Nat → Nat) (l : List Oper) (fr : Nat → V) (σ : St) (_ : Dep l) : Prop := lateAll τ hint l fr σ
theorem zlate_0 {l : List Oper} {A : Prop} {d : Dep (l, A)} : zlate 0 τ hint l fr σ A d = A := by simp [zlate]
theorem zlate_1 {l : List Oper} {A : Prop} {d : Dep (l, A)} : zlate 1 τ hint l fr σ A d = (zlates τ hint l fr σ .mk ∧ A) := by simp [zlate, zlates]
theorem zlates_nil {d : Dep ([] : List Oper)} : zlates τ hint [] fr σ d = True := rfl
theorem zlates_cons {o : Oper} {l : List Oper} {d : Dep (o :: l)} : zlates τ hint (o :: l) fr σ d = (late1 τ hint fr σ o.op o.dst ∧ zlates τ hint l fr σ .mk) := rfl
theorem zld_0 {t : TypeId} {x : Operand} {k : Nat} : zld τ 0 fr σ t x k = True := by simp [zld]
theorem zld_4 {t : TypeId} {x : Operand} {k : Nat} : zld τ 4 fr σ t x k = (vload τ σ t (veval fr x) = some (fr k)) := by simp [zld]
theorem zwp_region_t {i : Nat} {l : List Oper} {d : Dep (Code.region i (List.toArray l) true, Q)} : zwp P τ hint nt (.region i (List.toArray l) true) fr σ Q d = zops P τ hint nt (List.toArray l) false l fr σ (fun fr' σ' => zlate (hint 100000) τ hint l fr' σ' (Q .normal fr' σ') .mk) .mk := propext Iff.rfl
theorem zwp_seq {x y : Code} {d : Dep (Code.seq x y, Q)} : zwp P τ hint nt (.seq x y) fr σ Q d = zwp P τ hint nt x fr σ (fun e fr σ => match e with
    | .normal => zwp P τ hint nt y fr σ Q .mk
    | e => Q e fr σ) .mk := propext Iff.rfl
theorem zwp_cond {c : Operand} {x y : Code} {d : Dep (Code.cond c x y, Q)} : zwp P τ hint nt (.cond c x y) fr σ Q d = zcond (veval fr c) (zwp P τ hint nt x fr σ Q .mk) (zwp P τ hint nt y fr σ Q .mk) .mk := propext Iff.rfl
theorem zwp_block {i : Nat} {x : Code} {d : Dep (Code.block i x, Q)} : zwp P τ hint nt (.block i x) fr σ Q d = zwp P τ hint nt x fr σ (fun e fr σ => match e with
    | .exit id' => if id' = i then Q .normal fr σ else Q (.exit id') fr σ
    | e => Q e fr σ) .mk := propext Iff.rfl
theorem zwp_exit {i : Nat} {d : Dep (Code.exit i, Q)} : zwp P τ hint nt (.exit i) fr σ Q d = Q (.exit i) fr σ := propext Iff.rfl
theorem zwp_ret {d : Dep (Code.ret, Q)} : zwp P τ hint nt .ret fr σ Q d = Q .ret fr σ := propext Iff.rfl
/-- A range over a function that hands out known rows. -/
theorem zrange {g : Operand} {ps : Array Tmp} {x y : Code} {d : Dep (Code.rangeFunc g ps x y, Q)} {F : FuncId} {caps us : List V} (hg : veval fr g = .fn F caps) (hc : vargs1 σ caps = some (us, false)) {xs : List (List V)} (hs : VIter P F us xs) (I : Nat → St → Prop)
    (hp : ps.toList.all (· < nt) = true) (hl : ∀ x ∈ xs, x.length = ps.size) (h0 : I 0 σ)
    (hr : ∀ k row σ, xs[k]? = some row → I k σ → zwp P τ hint nt x (updL fr ps.toList row) σ (fun e fr' σ' => match e with
      | .normal => zwp P τ hint nt y fr' σ' (fun e _ σ'' => match e with
        | .normal => I (k + 1) σ''
        | .ret => Q .ret fr σ''
        | .exit id => Q (.exit id) fr σ''
        | _ => False) .mk
      | _ => False) .mk)
    (hd : ∀ σ, I xs.length σ → Q .normal fr σ) : zwp P τ hint nt (.rangeFunc g ps x y) fr σ Q d := by
  unfold zwp vwp
  rw [hg]
  simp only [hc]
  exact ⟨xs, I, hs, hp, hl, h0, hr, hd⟩
/-- A loop whose rounds are numbered. -/
theorem zloop {x : Code} {d : Dep (Code.loop x, Q)} (n : Nat) (I : Nat → (Nat → V) → St → Prop) (h0 : I 0 fr σ)
    (hs : ∀ k fr σ, k ≤ n → I k fr σ → zwp P τ hint nt x fr σ (fun e fr σ => match e with
      | .normal => k < n ∧ I (k + 1) fr σ
      | e => Q e fr σ) .mk) : zwp P τ hint nt (.loop x) fr σ Q d := loop_up n I h0 hs
end
end

theorem vret_n {τ : TypeId → Option TyD} {rs : List ResultVar} {r : V} {fr : Nat → V} {σ : St} : vret τ rs r .normal fr σ = ∃ r', (vres τ fr σ rs).bind (vseal σ) = some r' ∧ Vle r' r := propext Iff.rfl
theorem vret_r {τ : TypeId → Option TyD} {rs : List ResultVar} {r : V} {fr : Nat → V} {σ : St} : vret τ rs r .ret fr σ = ∃ r', (vres τ fr σ rs).bind (vseal σ) = some r' ∧ Vle r' r := propext Iff.rfl

theorem VPure.eq {P : Program} {f : FuncId} {args : List V} {r r' : V} (h : VPure P f args r) (e : r = r') : VPure P f args r' := e ▸ h
end Go.Vx
