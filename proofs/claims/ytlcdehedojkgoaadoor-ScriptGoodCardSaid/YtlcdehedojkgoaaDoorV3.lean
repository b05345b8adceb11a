/- What each operation does to values without memory, and that the program's own operations do the same: operations that only compute. -/
import Derived.Test.YtlcdehedojkgoaaDoorV2
import Derived.Laws.Small
import Derived.Laws.StructEq
import Derived.Laws.Pointers
import Derived.Lib.SliceRun
namespace Go.Vx
open Go.RowKit Go.Fl
set_option linter.unusedVariables false

inductive TD where
  | int (k : IntKind) | bool | str | sl (e : TypeId) | arr (n : Nat) (e : TypeId) | st (fs : List (TypeId × Nat)) | ptr (e : TypeId) | iface | func | other

structure TyD where
  d : TD
  sz : Nat
  bys : Nat
  z : List V

def tdOf : TypeDesc → TD
  | .int k => .int k
  | .bool => .bool
  | .string => .str
  | .slice e => .sl e
  | .array n e => .arr n e
  | .struct fs => .st (fs.toList.map fun f => (f.type, f.offset))
  | .pointer e => .ptr e
  | .interface _ => .iface
  | .func .. => .func
  | _ => .other

def TD.agg : TD → Bool
  | .st _ => true
  | .arr .. => true
  | _ => false

def toV1 : Value → V
  | .bool x => .b x
  | .int k n => .i k n
  | .string s => .s s.data.toList
  | .slice none 0 0 => .sl 0 [] .clip
  | .pointer none => .nilp
  | .nilIface => .nilif
  | _ => .undef

def toV : Value → V
  | .agg cs => .agg (cs.toList.map toV1)
  | v => toV1 v

theorem toV1_rel (w : World) (S : Addr → Prop) (c : Value) (h : toV1 c ≠ .undef) : PRel w S (toV1 c) c := by
  unfold toV1 at h ⊢
  split <;> first | exact .b _ | exact .i _ _ | exact .nilp | exact .nilif | skip
  · rename_i s
    have := PRel.s (w := w) (S := S) s.data.toList
    rwa [show bstr s.data.toList = s from by simp [bstr]] at this
  · exact .sl 0 [] .clip none 0 0 (fun _ => default) rfl (Nat.le_refl _) (Nat.zero_le _) (fun _ => rfl) (.inr ⟨rfl, rfl⟩) (fun j v h => by simp at h) (fun x j v k u _ h => by simp at h) (fun j v k u h => by simp at h)
  · simp at h

/-- Numbers, and arrays of numbers. -/
def flatEq (P : Program) (ty : TypeId) : Bool := match P.underlying ty with
  | some (.int _) => true
  | some (.array _ e) => match P.underlying e with
    | some (.int _) => true
    | _ => false
  | _ => false
structure TyAt (P : Program) (t : TypeId) (D : TyD) : Prop where
  und : (P.underlying t).map tdOf = some D.d
  info : ∃ i z, P.info? t = some i ∧ i.size = D.sz ∧ i.bytes = D.bys ∧ i.zero = some z ∧ z.cells.toList.map toV1 = D.z
  one : D.z.all V.one = true
  len : D.z.length = D.sz
  flds : ∀ gs, P.underlying t = some (.struct gs) → ∃ places, gs.toList.mapM (fun f => (P.info? f.type).map fun i => (f.offset, i.size)) = some places
  eqs : ∀ gs, P.underlying t = some (.struct gs) → (∀ f ∈ gs.toList, flatEq P f.type = true) → P.stoodInHeld t = false ∧ P.eqGuardType P.depth t = false ∧ ∀ f ∈ gs.toList, f.name ≠ "_"

def TyOk (P : Program) (τ : TypeId → Option TyD) : Prop := ∀ t D, τ t = some D → TyAt P t D

section
variable {P : Program} {t : TypeId} {D : TyD} (h : TyAt P t D)
include h
theorem TyAt.sizeOf (w : World) : (sizeOf t).run P w = .ok D.sz w := by
  obtain ⟨i, z, hi, hs, _⟩ := h.info
  simp [Go.sizeOf, typeInfo, hi, hs]
theorem TyAt.underlying : ∃ d, P.underlying t = some d ∧ tdOf d = D.d := by
  obtain ⟨d, h1, h2⟩ := Option.map_eq_some_iff.1 h.und
  exact ⟨d, h1, h2⟩
theorem TyAt.isAgg (w : World) : (isAgg t).run P w = .ok D.d.agg w := by
  obtain ⟨d, hd, he⟩ := h.underlying
  rw [← he]
  simp only [Go.isAgg, Sem.run_bind, run_underlying hd, Result.andThen_ok]
  cases d <;> rfl
theorem TyAt.zero (w : World) : ∃ z, (zeroValue t).run P w = .ok z w ∧ z.cells.toList.map toV1 = D.z ∧ z.cells.size = D.sz := by
  obtain ⟨i, z, hi, hs, hb, hz, hm⟩ := h.info
  refine ⟨z, by simp [zeroValue, typeInfo, hi, hz], hm, ?_⟩
  rw [← h.len, ← hm]; simp
end

theorem zero_rel {P : Program} {t : TypeId} {D : TyD} (h : TyAt P t D) {z : Value} (hz : z.cells.toList.map toV1 = D.z) (w : World) (S : Addr → Prop) (j : Nat) (v : V) (hj : D.z[j]? = some v) :
    v.one = true ∧ ∃ c, z.cells[j]? = some c ∧ PRel w S v c ∧ c.oneCell' = true := by
  have h1 : v.one = true := List.all_eq_true.1 h.one v (List.mem_of_getElem? hj)
  rw [← hz, List.getElem?_map] at hj
  obtain ⟨c, hc, hv⟩ := Option.map_eq_some_iff.1 hj
  have hp : PRel w S v c := by
    rw [← hv]
    refine toV1_rel w S c fun hu => ?_
    rw [← hv, hu] at h1; simp [V.one] at h1
  exact ⟨h1, c, by simpa using hc, hp, hp.oneCell h1⟩

/-! ### What a value can be -/
section
variable {C : Cx}
theorem VRel.inv_b {x : Bool} {c : Value} (h : VRel C (.b x) c) : c = .bool x := by
  cases h with
  | pure _ _ h => cases h; rfl
theorem VRel.inv_i {k : IntKind} {n : Int} {c : Value} (h : VRel C (.i k n) c) : c = .int k n := by
  cases h with
  | pure _ _ h => cases h; rfl
theorem VRel.inv_s {l : List UInt8} {c : Value} (h : VRel C (.s l) c) : c = .string (bstr l) := by
  cases h with
  | pure _ _ h => cases h; rfl
theorem VRel.inv_nilp {c : Value} (h : VRel C .nilp c) : c = .pointer none := by
  cases h with
  | pure _ _ h => cases h; rfl
theorem VRel.inv_rp {cs : List V} {c : Value} (h : VRel C (.rp cs) c) : PRel C.w C.S (.rp cs) c := by
  cases h with
  | pure _ _ h => exact h
theorem VRel.inv_sl {sz : Nat} {es : List V} {g : Gr} {c : Value} (h : VRel C (.sl sz es g) c) : PRel C.w C.S (.sl sz es .no) c := by
  cases h with
  | pure _ _ h => exact h.noclip
  | tok _ _ _ _ h => exact h
theorem VRel.inv_clip {sz : Nat} {es : List V} {c : Value} (h : VRel C (.sl sz es .clip) c) : PRel C.w C.S (.sl sz es .clip) c := by
  cases h with
  | pure _ _ h => exact h
theorem VRel.inv_agg {cs : List V} {c : Value} (h : VRel C (.agg cs) c) : ∃ ds : Array Value, c = .agg ds ∧ cs.all V.one = true ∧ ds.size = cs.length ∧ ∀ (j : Nat) v d, cs[j]? = some v → ds[j]? = some d → VRel C v d := by
  cases h with
  | pure _ _ h =>
    cases h with
    | agg _ ds h1 hl h => exact ⟨ds, rfl, h1, hl, fun j v d h1 h2 => .pure _ _ (h j v d h1 h2)⟩
  | agg _ ds h1 hl h => exact ⟨ds, rfl, h1, hl, h⟩
theorem VRel.inv_tup {cs : List V} {c : Value} (h : VRel C (.tup cs) c) : ∃ ds : Array Value, c = .tuple ds ∧ ds.size = cs.length ∧ ∀ (j : Nat) v d, cs[j]? = some v → ds[j]? = some d → VRel C v d := by
  cases h with
  | pure _ _ h =>
    cases h with
    | tup _ ds hl h => exact ⟨ds, rfl, hl, fun j v d h1 h2 => .pure _ _ (h j v d h1 h2)⟩
  | tup _ ds hl h => exact ⟨ds, rfl, hl, h⟩
theorem VRel.inv_fn {f : FuncId} {cs : List V} {c : Value} (h : VRel C (.fn f cs) c) : ∃ ds : Array Value, c = .func (.func f) #[] ds ∧ ds.size = cs.length ∧ ∀ (j : Nat) v d, cs[j]? = some v → ds[j]? = some d → VRel C v d := by
  cases h with
  | pure _ _ h =>
    cases h with
    | fn _ _ ds hl h => exact ⟨ds, rfl, hl, fun j v d h1 h2 => .pure _ _ (h j v d h1 h2)⟩
  | fn _ _ ds hl h => exact ⟨ds, rfl, hl, h⟩
theorem VRel.inv_ptr {o off : Nat} {c : Value} (h : VRel C (.ptr o off) c) : ∃ x, c = .pointer (some x) ∧ C.m o ≠ .none ∧ ∀ g, C.m o = .obj g → x = ⟨g, off, none⟩ := by
  cases h with
  | pure _ _ h => cases h
  | ptr _ _ x hm h => exact ⟨x, rfl, hm, h⟩
theorem VRel.inv_osl {o off len cap : Nat} {c : Value} (h : VRel C (.osl o off len cap) c) : ∃ x cp, c = .slice (some x) len cp ∧ C.m o ≠ .none ∧ len ≤ cap ∧ cap ≤ cp ∧ cp ≤ maxLen ∧ ∀ g, C.m o = .obj g → x = ⟨g, off, none⟩ := by
  cases h with
  | pure _ _ h => cases h
  | osl _ _ _ _ x cp hm hle hc hmax h => exact ⟨x, cp, rfl, hm, hle, hc, hmax, h⟩
/-- Constructors for values of the walk's own. -/
theorem VRel.b (x : Bool) : VRel C (.b x) (.bool x) := .pure _ _ (.b x)
theorem VRel.i (k : IntKind) (n : Int) : VRel C (.i k n) (.int k n) := .pure _ _ (.i k n)
theorem VRel.s (l : List UInt8) : VRel C (.s l) (.string (bstr l)) := .pure _ _ (.s l)
end

/-! ### A slice's cells -/
theorem flat_index {sz : Nat} (hsz : 0 < sz) (q : Nat) : q = q / sz * sz + q % sz := by
  have := Nat.div_add_mod q sz
  rw [Nat.mul_comm] at this
  exact this.symm

/-- A slice as cells. -/
theorem PRel.rd {w : World} {S : Addr → Prop} {sz : Nat} {es : List V} {g : Gr} {c : Value} (h : PRel w S (.sl sz es g) c) :
    ∃ a cap xs, c = .slice a es.length cap ∧ Rd w sz a es.length cap xs ∧ (∀ u ∈ xs, u.oneCell' = true) ∧
      (∀ (j : Nat) v (k : Nat) u, es[j]? = some v → v.cells[k]? = some u → u.one = true ∧ ∃ c, xs[j * sz + k]? = some c ∧ PRel w S u c ∧ ∀ x, a = some x → S (x.add (j * sz + k))) ∧
      (∀ (j : Nat) v, es[j]? = some v → v.cells.length = sz) ∧ (g = .clip → cap = es.length) := by
  cases h with
  | sl _ _ _ a len cap cv hlen hle hmax hnul hg hsz hcell hrel =>
    subst hlen
    have hd : ∀ q, q < es.length * sz → ∃ v u, es[q / sz]? = some v ∧ v.cells[q % sz]? = some u ∧ q / sz * sz + q % sz = q := by
      intro q hq
      have h0 : 0 < sz := Nat.pos_of_ne_zero fun h => by rw [h] at hq; simp at hq
      have h1 : q / sz < es.length := Nat.div_lt_of_lt_mul (by rw [Nat.mul_comm]; exact hq)
      have h2 := hsz _ _ (List.getElem?_eq_getElem h1)
      exact ⟨es[q / sz], _, List.getElem?_eq_getElem h1, List.getElem?_eq_getElem (by rw [h2]; exact Nat.mod_lt _ h0), (flat_index h0 q).symm⟩
    refine ⟨a, cap, (List.range (es.length * sz)).map cv, rfl, ⟨by simp, hle, hmax, hnul, fun x hx j u hu => ?_⟩, fun u hu => ?_, fun j v k u hj hk => ?_, hsz, fun e => ?_⟩
    · rw [List.getElem?_map] at hu
      obtain ⟨q, hq, rfl⟩ := Option.map_eq_some_iff.1 hu
      obtain ⟨hq1, hq2⟩ := List.getElem?_eq_some_iff.1 hq
      simp only [List.length_range] at hq1
      simp only [List.getElem_range] at hq2
      subst hq2
      obtain ⟨v, u, h1, h2, h3⟩ := hd j hq1
      have := (hcell x _ v _ u hx h1 h2).2.2
      rwa [h3] at this
    · obtain ⟨q, hq, rfl⟩ := List.mem_map.1 hu
      obtain ⟨v, u, h1, h2, h3⟩ := hd q (by simpa using hq)
      have h4 := hrel _ v _ u h1 h2
      rw [h3] at h4
      cases a with
      | none =>
        have h5 := hnul rfl
        have : es = [] := List.eq_nil_of_length_eq_zero (by omega)
        rw [this] at h1; simp at h1
      | some x => exact h4.oneCell (hcell x _ v _ u rfl h1 h2).1
    · have hj' : j < es.length := (List.getElem?_eq_some_iff.1 hj).1
      have hk' : k < sz := by have := (List.getElem?_eq_some_iff.1 hk).1; rw [hsz j v hj] at this; exact this
      have hq : j * sz + k < es.length * sz := Nat.lt_of_lt_of_le (Nat.add_lt_add_left hk' _) (by rw [← Nat.succ_mul]; exact Nat.mul_le_mul_right _ hj')
      have h1 : u.one = true := by
        cases a with
        | none => have h5 := hnul rfl; omega
        | some x => exact (hcell x j v k u rfl hj hk).1
      exact ⟨h1, cv (j * sz + k), by simp [hq], hrel j v k u hj hk, fun x hx => (hcell x j v k u hx hj hk).2.1⟩
    · rcases hg with rfl | ⟨_, h⟩
      · cases e
      · exact h

/-- Out of cells a slice. -/
theorem PRel.of_rd {w : World} {S : Addr → Prop} {sz : Nat} {es : List V} {g : Gr} {a : Option Addr} {cap : Nat} {xs : List Value} (hr : Rd w sz a es.length cap xs) (hg : g = .no ∨ (g = .clip ∧ cap = es.length))
    (hsz : ∀ (j : Nat) v, es[j]? = some v → v.cells.length = sz)
    (hrel : ∀ (j : Nat) v (k : Nat) u, es[j]? = some v → v.cells[k]? = some u → u.one = true ∧ ∃ c, xs[j * sz + k]? = some c ∧ PRel w S u c)
    (hS : ∀ x (q : Nat), a = some x → q < es.length * sz → S (x.add q)) : PRel w S (.sl sz es g) (.slice a es.length cap) := by
  refine .sl sz es g a es.length cap (fun q => (xs[q]?).getD default) rfl hr.le hr.max hr.nul hg hsz (fun x j v k u hx hj hk => ?_) (fun j v k u hj hk => ?_)
  · obtain ⟨h1, c, h2, h3⟩ := hrel j v k u hj hk
    have hj' : j < es.length := (List.getElem?_eq_some_iff.1 hj).1
    have hk' : k < sz := by have := (List.getElem?_eq_some_iff.1 hk).1; rw [hsz j v hj] at this; exact this
    have hq : j * sz + k < es.length * sz := Nat.lt_of_lt_of_le (Nat.add_lt_add_left hk' _) (by rw [← Nat.succ_mul]; exact Nat.mul_le_mul_right _ hj')
    exact ⟨h1, hS x _ hx hq, by rw [hr.cell x hx _ c h2]; simp [h2]⟩
  · obtain ⟨h1, c, h2, h3⟩ := hrel j v k u hj hk
    simpa [h2] using h3

/-! ### Bytes -/
def bv (l : List UInt8) : List V := l.map fun c => .i .u8 (c.toNat : Int)
def unb : V → Option UInt8
  | .i .u8 n => if 0 ≤ n ∧ n < 256 then some (UInt8.ofNat n.toNat) else none
  | _ => none
def unbv (es : List V) : Option (List UInt8) := es.mapM unb
@[simp] theorem unb_i (c : UInt8) : unb (.i .u8 (c.toNat : Int)) = some c := by
  have := c.toNat_lt
  simp only [unb]
  rw [if_pos ⟨by omega, by omega⟩]
  simp
@[simp] theorem unbv_bv : ∀ l : List UInt8, unbv (bv l) = some l
  | [] => rfl
  | c :: l => by
    have := unbv_bv l
    unfold unbv bv at *
    simp only [List.map_cons, List.mapM_cons, unb_i, this]
    rfl
theorem unb_some {v : V} {c : UInt8} (h : unb v = some c) : v = .i .u8 (c.toNat : Int) := by
  unfold unb at h
  split at h
  · rename_i n
    split at h
    · rename_i hn
      simp only [Option.some.injEq] at h
      subst h
      have : (UInt8.ofNat n.toNat).toNat = n.toNat := by simp; omega
      rw [this]
      congr 1; omega
    · cases h
  · cases h
theorem unbv_some : ∀ {es : List V} {l : List UInt8}, unbv es = some l → es = bv l
  | [], l, h => by simp [unbv] at h; subst h; rfl
  | v :: es, l, h => by
    unfold unbv at h
    simp only [List.mapM_cons] at h
    cases hv : unb v with
    | none => rw [hv] at h; cases h
    | some c =>
      rw [hv] at h
      cases hr : es.mapM unb with
      | none => rw [hr] at h; cases h
      | some r =>
        rw [hr] at h
        simp only [Option.bind_eq_bind, Option.bind_some, Option.pure_def, Option.some.injEq] at h
        subst h
        rw [unb_some hv, unbv_some (l := r) hr]
        rfl
@[simp] theorem bv_length (l : List UInt8) : (bv l).length = l.length := by simp [bv]

theorem PRel.bytes {w : World} {S : Addr → Prop} {l : List UInt8} {g : Gr} {c : Value} (h : PRel w S (.sl 1 (bv l) g) c) : ∃ a cap, c = .slice a l.length cap ∧ Rd w 1 a l.length cap (bc l) := by
  obtain ⟨a, cap, xs, hc, hr, _, hx, _⟩ := h.rd
  rw [bv_length] at hc hr
  refine ⟨a, cap, hc, ?_⟩
  have : xs = bc l := by
    have hl := hr.len
    simp only [Nat.mul_one] at hl
    apply List.ext_getElem?
    intro j
    by_cases hj : j < l.length
    · have h1 : (bv l)[j]? = some (.i .u8 (l[j].toNat : Int)) := by simp [bv, hj]
      obtain ⟨_, d, hd, hp, _⟩ := hx j _ 0 _ h1 rfl
      simp only [Nat.mul_one, Nat.add_zero] at hd
      cases hp
      rw [hd, bc_get l j hj]
    · rw [List.getElem?_eq_none (by omega), List.getElem?_eq_none (by simp; omega)]
  rwa [this] at hr

/-! ### Operations that compute -/
/-- Whether a slice's cells are of a size. -/
def szOk (sz n : Nat) (es : List V) : Bool := sz == n || es.isEmpty

def vint (op : BinOp) (k : IntKind) (a b : Int) : Option V :=
  match op with
  | .add => some (.i k (k.wrap (a + b)))
  | .sub => some (.i k (k.wrap (a - b)))
  | .mul => some (.i k (k.wrap (a * b)))
  | .quo => if b = 0 then none else some (.i k (k.wrap (a.tdiv b)))
  | .rem => if b = 0 then none else some (.i k (a.tmod b))
  | .and => some (.i k (k.wrap ((BitVec.ofInt k.bits a &&& BitVec.ofInt k.bits b).toNat : Int)))
  | .or => some (.i k (k.wrap ((BitVec.ofInt k.bits a ||| BitVec.ofInt k.bits b).toNat : Int)))
  | .xor => some (.i k (k.wrap ((BitVec.ofInt k.bits a ^^^ BitVec.ofInt k.bits b).toNat : Int)))
  | .andNot => some (.i k (k.wrap ((BitVec.ofInt k.bits a &&& ~~~ BitVec.ofInt k.bits b).toNat : Int)))
  | .eql => some (.b (a == b))
  | .neq => some (.b (a != b))
  | .lss => some (.b (a < b))
  | .leq => some (.b (a ≤ b))
  | .gtr => some (.b (a > b))
  | .geq => some (.b (a ≥ b))
  | _ => none

def vshift (op : BinOp) (k : IntKind) (a b : Int) : Option V :=
  if b < 0 then none else
  match op with
  | .shl => some (.i k (k.wrap (a * 2 ^ (min b.toNat k.bits))))
  | .shr => some (.i k (a.fdiv (2 ^ (min b.toNat k.bits))))
  | _ => none

def BinOp.sh : BinOp → Bool
  | .shl => true
  | .shr => true
  | _ => false

def vbin (op : BinOp) (d : TD) (x y : V) : Option V :=
  match x, y with
  | .i k a, .i k' b => if BinOp.sh op then vshift op k a b else if k = k' then vint op k a b else none
  | .s a, .s b =>
    match op with
    | .add => if a.length + b.length < 70368744177664 then some (.s (a ++ b)) else none
    | .eql => some (.b (a == b))
    | .neq => some (.b (!(a == b)))
    | _ => none
  | .b a, .b b =>
    match op, d with
    | .eql, .bool => some (.b (a == b))
    | .neq, .bool => some (.b (!(a == b)))
    | _, _ => none
  | x, .nilp =>
    match op, d, x with
    | .eql, .ptr _, .nilp => some (.b true)
    | .neq, .ptr _, .nilp => some (.b false)
    | .eql, .ptr _, .ptr _ _ => some (.b false)
    | .neq, .ptr _, .ptr _ _ => some (.b true)
    | _, _, _ => none
  | _, _ => none

theorem vint_ok {P : Program} {w : World} {op : BinOp} {t : TypeId} {k : IntKind} {a b : Int} {v : V} (hsh : BinOp.sh op = false) (h : vint op k a b = some v) :
    ∃ c, (binOp op t (.int k a) (.int k b)).run P w = .ok c w ∧ ∀ C : Cx, VRel C v c := by
  cases op <;> simp only [vint, Option.some.injEq] at h
  all_goals first
    | (simp [BinOp.sh] at hsh; done)
    | (subst h; refine ⟨_, ?_, fun C => .i _ _⟩; first | (simp [binOp, Op.intArith]; done) | (simp only [binOp, ne_eq, not_true_eq_false, if_false]; rfl))
    | (subst h; refine ⟨_, ?_, fun C => .b _⟩; simp [binOp, Op.intCmp]; done)
    | (split at h <;> first | (cases h; done) | (rename_i hb; simp only [Option.some.injEq] at h; subst h; refine ⟨_, ?_, fun C => .i _ _⟩; simp [binOp, Op.intDiv, hb]; done))
    | cases h

theorem vshift_ok {P : Program} {w : World} {op : BinOp} {t : TypeId} {k k' : IntKind} {a b : Int} {v : V} (hsh : BinOp.sh op = true) (h : vshift op k a b = some v) :
    ∃ c, (binOp op t (.int k a) (.int k' b)).run P w = .ok c w ∧ ∀ C : Cx, VRel C v c := by
  unfold vshift at h
  split at h
  · cases h
  · rename_i hb
    cases op <;> simp [BinOp.sh] at hsh <;> simp only [Option.some.injEq] at h <;> subst h
    · exact ⟨_, by simp [binOp, Op.shift, hb], fun C => .i _ _⟩
    · exact ⟨_, by simp [binOp, Op.shift, hb], fun C => .i _ _⟩

theorem bstr_eq (a b : List UInt8) : ((bstr a).toList == (bstr b).toList) = (a == b) := by simp

theorem vbin_ok {P : Program} {C : Cx} {op : BinOp} {t : TypeId} {D : TyD} (hD : TyAt P t D) {x y : V} {v : V} {cx cy : Value} (ox oy : Operand) (hx : VRel C x cx) (hy : VRel C y cy) (h : vbin op D.d x y = some v) :
    ∃ c, (do eqGuard op t ox oy cx cy; binOp op t cx cy : Sem Value).run P C.w = .ok c C.w ∧ VRel C v c := by
  obtain ⟨d, hd, hde⟩ := hD.underlying
  unfold vbin at h
  split at h
  · obtain rfl := hx.inv_i; obtain rfl := hy.inv_i
    rw [eqGuard_at_int]
    split at h
    · rename_i hs
      obtain ⟨c, h1, h2⟩ := vshift_ok (P := P) (w := C.w) (t := t) hs h
      exact ⟨c, by simpa using h1, h2 C⟩
    · rename_i hs
      split at h
      · rename_i hk; subst hk
        obtain ⟨c, h1, h2⟩ := vint_ok (P := P) (w := C.w) (t := t) (by simpa using hs) h
        exact ⟨c, by simpa using h1, h2 C⟩
      · cases h
  · obtain rfl := hx.inv_s; obtain rfl := hy.inv_s
    rw [eqGuard_at_string]
    split at h
    · split at h
      · rename_i hl
        simp only [Option.some.injEq] at h; subst h
        exact ⟨_, by simpa [binOp] using run_add_bstr C.w _ _ hl, .s _⟩
      · cases h
    · simp only [Option.some.injEq] at h; subst h
      exact ⟨_, by simp [binOp, Op.stringOp], .b _⟩
    · simp only [Option.some.injEq] at h; subst h
      exact ⟨_, by simp [binOp, Op.stringOp], .b _⟩
    · cases h
  · obtain rfl := hx.inv_b; obtain rfl := hy.inv_b
    rw [eqGuard_at_bool]
    split at h
    · rename_i hdd
      have hb : P.underlying t = some .bool := by rw [hd]; rw [hdd] at hde; cases d <;> simp [tdOf] at hde ⊢
      simp only [Option.some.injEq] at h; subst h
      exact ⟨_, by simpa using run_eql_bool C.w t _ _ hb, .b _⟩
    · rename_i hdd
      have hb : P.underlying t = some .bool := by rw [hd]; rw [hdd] at hde; cases d <;> simp [tdOf] at hde ⊢
      simp only [Option.some.injEq] at h; subst h
      exact ⟨_, by simpa using run_neq_bool C.w t _ _ hb, .b _⟩
    · cases h
  · obtain rfl := hy.inv_nilp
    have hp : ∀ e, D.d = .ptr e → P.underlying t = some (.pointer (P.pointee t)) := fun e he => by
      rw [he] at hde
      cases d <;> simp [tdOf] at hde
      rw [hd]; simp [Program.pointee, hd]
    split at h <;> first | (cases h; done) | skip
    · rename_i hdd
      obtain rfl := hx.inv_nilp
      simp only [Option.some.injEq] at h; subst h
      rw [eqGuard_at_pointer]
      exact ⟨_, by simpa using run_eql_pointer_nil C.w t none (hp _ hdd), .b _⟩
    · rename_i hdd
      obtain rfl := hx.inv_nilp
      simp only [Option.some.injEq] at h; subst h
      rw [eqGuard_at_pointer]
      exact ⟨_, by simpa using run_neq_pointer_nil C.w t none (hp _ hdd), .b _⟩
    · rename_i hdd
      obtain ⟨x, rfl, _⟩ := hx.inv_ptr
      simp only [Option.some.injEq] at h; subst h
      rw [eqGuard_at_pointer]
      exact ⟨_, by simpa using run_eql_pointer_nil C.w t (some x) (hp _ hdd), .b _⟩
    · rename_i hdd
      obtain ⟨x, rfl, _⟩ := hx.inv_ptr
      simp only [Option.some.injEq] at h; subst h
      rw [eqGuard_at_pointer]
      exact ⟨_, by simpa using run_neq_pointer_nil C.w t (some x) (hp _ hdd), .b _⟩
  · cases h

def vun (op : UnOp) (x : V) : Option V :=
  match op, x with
  | .not, .b x => some (.b (!x))
  | .neg, .i k n => some (.i k (k.wrap (0 - n)))
  | .xor, .i k n => some (.i k (k.wrap ((BitVec.ofInt k.bits (if k.signed then -1 else k.max) ^^^ BitVec.ofInt k.bits n).toNat : Int)))
  | _, _ => none

theorem vun_ok {P : Program} {C : Cx} {op : UnOp} {x v : V} {cx : Value} (hx : VRel C x cx) (h : vun op x = some v) : ∃ c, (Op.unary op cx).run P C.w = .ok c C.w ∧ VRel C v c := by
  unfold vun at h
  split at h
  · obtain rfl := hx.inv_b
    simp only [Option.some.injEq] at h; subst h
    exact ⟨_, by simp [Op.unary], .b _⟩
  · obtain rfl := hx.inv_i
    simp only [Option.some.injEq] at h; subst h
    exact ⟨_, by simp [Op.unary, Op.intArith], .i _ _⟩
  · obtain rfl := hx.inv_i
    simp only [Option.some.injEq] at h; subst h
    exact ⟨_, by simp only [Op.unary]; rfl, .i _ _⟩
  · cases h
end Go.Vx
