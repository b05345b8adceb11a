/- A small library over the model, free of any one program: what a slice reads as, what a call owns, and the laws on append, copy and slicing that go with these words. -/
import Derived.WalkKit
import Derived.Deep.AppendSrc
import Derived.Laws.CopyOwn
namespace Go.Fl
open Go.RowKit

/-- A fact that no tactic looks into. -/
structure Bx (p : Prop) : Prop where
  out : p

/-- The cells of a list of bytes. -/
def bc (l : List UInt8) : List Value := l.map fun c => .int .u8 (c.toNat : Int)
@[simp] theorem bc_length (l : List UInt8) : (bc l).length = l.length := by simp [bc]
theorem bc_append (l m : List UInt8) : bc (l ++ m) = bc l ++ bc m := by simp [bc]
theorem bc_take (l : List UInt8) (k : Nat) : bc (l.take k) = (bc l).take k := by simp [bc, List.map_take]
theorem bc_drop (l : List UInt8) (k : Nat) : bc (l.drop k) = (bc l).drop k := by simp [bc, List.map_drop]
theorem bc_get (l : List UInt8) (i : Nat) (h : i < l.length) : (bc l)[i]? = some (.int .u8 (l[i].toNat : Int)) := by
  simp [bc, h]
theorem bc_one (l : List UInt8) : ∀ u ∈ bc l, u.oneCell' = true := by
  intro u hu
  obtain ⟨_, _, rfl⟩ := List.mem_map.1 hu
  rfl

/-- The slice (a, n, cap) reads as the cells xs ('size' cells an element). -/
structure Rd (w : World) (size : Nat) (a : Option Addr) (n cap : Nat) (xs : List Value) : Prop where
  len : xs.length = n * size
  le : n ≤ cap
  max : cap ≤ maxLen
  nul : a = none → cap = 0
  cell : ∀ x, a = some x → ∀ j u, xs[j]? = some u → w.cell? (x.add j) = some u

theorem Rd.nil (w : World) (size : Nat) : Rd w size none 0 0 [] := ⟨by simp, Nat.le_refl _, Nat.zero_le _, fun _ => rfl, fun _ h => by cases h⟩

theorem add_block (x : Addr) (j : Nat) : (x.add j).block = x.block := by unfold Addr.add; split <;> rfl
theorem add_add (x : Addr) (i j : Nat) : (x.add i).add j = x.add (i + j) := by
  unfold Addr.add
  by_cases hi : i = 0
  · subst hi; simp
  · by_cases hj : j = 0
    · subst hj; simp
    · rw [if_neg hi, if_neg hj, if_neg (by omega)]; simp only [Nat.add_assoc]
theorem addr_add (b off k : Nat) : (⟨b, off, none⟩ : Addr).add k = ⟨b, off + k, none⟩ := by
  unfold Addr.add; split <;> simp_all

theorem Rd.mono {w w' : World} {size n cap : Nat} {a : Option Addr} {xs : List Value} (h : Rd w size a n cap xs) (hb : Below w.heap.size w w') : Rd w' size a n cap xs :=
  ⟨h.len, h.le, h.max, h.nul, fun x hx j u hu => by
    have h1 := h.cell x hx j u hu
    exact (hb.cell (p := x.add j) (World.block_lt_of_cell? _ _ h1)).trans h1⟩

/-- A reading is kept wherever the blocks that it uses are. -/
theorem Rd.keep {w w' : World} {size n cap : Nat} {a : Option Addr} {xs : List Value} (h : Rd w size a n cap xs) (hb : ∀ x, a = some x → w'.heap[x.block]? = w.heap[x.block]?) : Rd w' size a n cap xs :=
  ⟨h.len, h.le, h.max, h.nul, fun x hx j u hu => by
    have hb' := hb x hx
    rw [← add_block x j] at hb'
    exact (World.cell?_of_block hb').trans (h.cell x hx j u hu)⟩

/-- What slicing makes reads as the part. -/
theorem Rd.sliced {w : World} {size n cap : Nat} {a : Option Addr} {xs : List Value} (h : Rd w size a n cap xs) (l k m : Nat) (hl : l ≤ k) (hk : k ≤ n) (hm : k ≤ m) (hc : m ≤ cap) :
    Rd w size (if m = l then a else a.map (·.add (l * size))) (k - l) (m - l) ((xs.drop (l * size)).take ((k - l) * size)) := by
  have hmax := h.max
  have hlen := h.len
  have hle : l * size + (k - l) * size ≤ n * size := by
    rw [← Nat.add_mul]; exact Nat.mul_le_mul_right _ (by omega)
  refine ⟨?_, by omega, by omega, fun e => ?_, fun x hx => ?_⟩
  · simp only [List.length_take, List.length_drop]; omega
  · split at e
    · have := h.nul e; omega
    · cases a with
      | none => have := h.nul rfl; omega
      | some x => simp at e
  · intro j u hu
    split at hx
    · have hz : k - l = 0 := by omega
      simp [hz] at hu
    · cases a with
      | none => simp at hx
      | some y =>
        simp only [Option.map_some, Option.some.injEq] at hx
        subst hx
        rw [add_add]
        rw [List.getElem?_take] at hu
        split at hu
        · rw [List.getElem?_drop] at hu
          exact h.cell y rfl _ u hu
        · cases hu

/-- s[:m] keeps the address: the walk itself writes `.slice a m cap`. -/
theorem Rd.take {w : World} {size n cap : Nat} {a : Option Addr} {xs : List Value} (h : Rd w size a n cap xs) (m : Nat) (hm : m ≤ n) : Rd w size a m cap (xs.take (m * size)) := by
  have hle := h.le
  have hl := h.len
  have hms : m * size ≤ n * size := Nat.mul_le_mul_right _ hm
  refine ⟨by simp; omega, by omega, h.max, h.nul, fun x hx j u hu => ?_⟩
  rw [List.getElem?_take] at hu
  split at hu
  · exact h.cell x hx j u hu
  · cases hu

section
variable {P : Program} {w : World} {size n cap : Nat} {a : Option Addr} {xs : List Value} (t : TypeId) (ht : P.underlying t = some (.slice (P.elem t)))
  (hsz : ∀ W : World, (sizeOf (P.elem t)).run P W = .ok size W)
include ht hsz

/-- s[lo:hi]: one run equation, whatever the world, and what the part reads as. -/
theorem Rd.run_lh (h : Rd w size a n cap xs) (lo hi : Int) (k m : Nat) (hk : lo = k) (hm : hi = k + m) (hle : k + m ≤ n) :
    ∃ a' c', (∀ W : World, (Instr.slice t (.slice a n cap) (some (.int .i64 lo)) (some (.int .i64 hi)) none).run P W = .ok (.slice a' m c') W) ∧ Rd w size a' m c' ((xs.drop (k * size)).take (m * size)) := by
  subst hk; subst hm
  have hc := h.le
  refine ⟨if cap = k then a else a.map (·.add (k * size)), cap - k, fun W => ?_, ?_⟩
  · rw [run_slice_lh W t a n cap ht .i64 .i64 (k : Int) ((k : Int) + m) (by omega) (by omega) (by omega), hsz]
    simp only [Result.andThen, Go.sliced, Int.toNat_natCast, show ((k : Int) + m).toNat = k + m by omega, Nat.add_sub_cancel_left]
  · have := h.sliced k (k + m) cap (by omega) hle (by omega) (Nat.le_refl _)
    simpa only [Nat.add_sub_cancel_left] using this

theorem Rd.run_l (h : Rd w size a n cap xs) (lo : Int) (k : Nat) (hk : lo = k) (hle : k ≤ n) :
    ∃ a' c', (∀ W : World, (Instr.slice t (.slice a n cap) (some (.int .i64 lo)) none none).run P W = .ok (.slice a' (n - k) c') W) ∧ Rd w size a' (n - k) c' (xs.drop (k * size)) := by
  subst hk
  have hc := h.le
  have hl := h.len
  refine ⟨if cap = k then a else a.map (·.add (k * size)), cap - k, fun W => ?_, ?_⟩
  · rw [run_slice_l W t a n cap ht .i64 (k : Int) (by omega) (by omega), hsz]
    simp only [Result.andThen, Go.sliced, Int.toNat_natCast]
  · have := h.sliced k n cap hle (Nat.le_refl _) hc (Nat.le_refl _)
    rw [List.take_of_length_le] at this
    · exact this
    · rw [List.length_drop, hl, Nat.sub_mul]; exact Nat.le_refl _

theorem Rd.run_lhm (h : Rd w size a n cap xs) (lo hi mx : Int) (k m q : Nat) (hk : lo = k) (hm : hi = k + m) (hq : mx = k + q) (hmq : m ≤ q) (hle : k + m ≤ n) (hqc : k + q ≤ cap) :
    ∃ a', (∀ W : World, (Instr.slice t (.slice a n cap) (some (.int .i64 lo)) (some (.int .i64 hi)) (some (.int .i64 mx))).run P W = .ok (.slice a' m q) W) ∧ Rd w size a' m q ((xs.drop (k * size)).take (m * size)) := by
  subst hk; subst hm; subst hq
  have hc := h.le
  refine ⟨if k + q = k then a else a.map (·.add (k * size)), fun W => ?_, ?_⟩
  · rw [run_slice_lhm W t a n cap ht .i64 .i64 .i64 (k : Int) ((k : Int) + m) ((k : Int) + q) (by omega) (by omega) (by omega) (by omega), hsz]
    simp only [Result.andThen, Go.sliced, Int.toNat_natCast, show ((k : Int) + m).toNat = k + m by omega, show ((k : Int) + q).toNat = k + q by omega, Nat.add_sub_cancel_left]
  · have := h.sliced k (k + m) (k + q) (by omega) hle (by omega) hqc
    simpa only [Nat.add_sub_cancel_left] using this
end

/-- Where there is an element the slice leads somewhere. -/
theorem Rd.addr {w : World} {size n cap : Nat} {a : Option Addr} {xs : List Value} (h : Rd w size a n cap xs) (h0 : 0 < n) (hs : 0 < size) :
    ∃ b off, a = some ⟨b, off, none⟩ ∧ ∀ j u, xs[j]? = some u → w.cell? ⟨b, off + j, none⟩ = some u := by
  cases a with
  | none => have := h.nul rfl; have := h.le; omega
  | some x =>
    obtain ⟨b, off, spot⟩ := x
    have hl : 0 < xs.length := by rw [h.len]; exact Nat.mul_pos h0 hs
    have hc := h.cell _ rfl 0 xs[0] (by simp [hl])
    have hsp : spot = none := by
      cases spot with
      | none => rfl
      | some p =>
        simp only [Addr.add, if_true, World.cell?] at hc
        split at hc <;> simp at hc
    subst hsp
    exact ⟨b, off, rfl, fun j u hu => by rw [← addr_add]; exact h.cell _ rfl j u hu⟩

/-- The byte at a place. -/
theorem Rd.byte {w : World} {b off n cap : Nat} {l : List UInt8} (h : Rd w 1 (some ⟨b, off, none⟩) n cap (bc l)) (i : Nat) (hi : i < l.length) :
    w.cell? ⟨b, off + i, none⟩ = some (.int .u8 (l[i].toNat : Int)) := by
  rw [← addr_add]
  exact h.cell _ rfl i _ (bc_get l i hi)

/-- The slice (a, n, cap) is the call's own from block B on. -/
def Own (w : World) (B e size : Nat) (a : Option Addr) (n cap : Nat) (xs : List Value) : Prop := w.ownsRow B e size (.slice a n cap) n xs

theorem Own.nil (w : World) (B e size : Nat) : Own w B e size none 0 0 [] := World.ownsRow_nil w B e size

theorem Own.rd {w : World} {B e size n cap : Nat} {a : Option Addr} {xs : List Value} (h : Own w B e size a n cap xs) : Rd w size a n cap xs := by
  obtain ⟨hl, h⟩ := h
  rcases h with ⟨hv, rfl⟩ | ⟨g, c, cur, hv, hg, hh, hn, hm, hs, ht⟩
  · simp only [Value.slice.injEq] at hv
    obtain ⟨rfl, _, rfl⟩ := hv
    exact ⟨hl, Nat.le_refl _, Nat.zero_le _, fun _ => rfl, fun _ h => by cases h⟩
  · simp only [Value.slice.injEq] at hv
    obtain ⟨rfl, _, rfl⟩ := hv
    refine ⟨hl, hn, hm, fun h => (nomatch h), fun x hx j u hu => ?_⟩
    simp only [Option.some.injEq] at hx
    subst hx
    rw [addr_add, Nat.zero_add, cell_of_row w g j cur e (0, 0) hh]
    rw [← ht, List.getElem?_take] at hu
    split at hu
    · simpa using hu
    · cases hu

theorem Own.mono {w w' : World} {B e size n cap : Nat} {a : Option Addr} {xs : List Value} (h : Own w B e size a n cap xs) (hb : Below w.heap.size w w') : Own w' B e size a n cap xs := by
  obtain ⟨hl, h⟩ := h
  refine ⟨hl, ?_⟩
  rcases h with h | ⟨g, c, cur, hv, hg, hh, r⟩
  · exact .inl h
  · exact .inr ⟨g, c, cur, hv, hg, by rw [hb.block g (Array.getElem?_eq_some_iff.1 hh).1]; exact hh, r⟩

theorem Own.alloc {w : World} {B e size n cap : Nat} {a : Option Addr} {xs : List Value} (h : Own w B e size a n cap xs) (o : Obj) : Own (w.alloc o) B e size a n cap xs :=
  h.mono ((Below.refl _ _).alloc (Nat.le_refl _) o)

theorem Rd.alloc {w : World} {size n cap : Nat} {a : Option Addr} {xs : List Value} (h : Rd w size a n cap xs) (o : Obj) : Rd (w.alloc o) size a n cap xs :=
  h.mono ((Below.refl _ _).alloc (Nat.le_refl _) o)

theorem Rd.set {w : World} {size n cap : Nat} {a : Option Addr} {xs : List Value} (h : Rd w size a n cap xs) (p : Addr) (v : Value) (hne : ∀ x, a = some x → x.block ≠ p.block) : Rd (w.setCell p v) size a n cap xs :=
  h.keep fun x hx => Below.heap_setCell _ _ _ _ (hne x hx)

theorem Own.form {w : World} {B e size n cap : Nat} {a : Option Addr} {xs : List Value} (h : Own w B e size a n cap xs) (h0 : 0 < n) : ∃ g, a = some ⟨g, 0, none⟩ ∧ B ≤ g ∧ g < w.heap.size := by
  obtain ⟨hl, h⟩ := h
  rcases h with ⟨_, hn⟩ | ⟨g, c, cur, hv, hg, hh, r⟩
  · omega
  · simp only [Value.slice.injEq] at hv
    exact ⟨g, hv.1, hg, (Array.getElem?_eq_some_iff.1 hh).1⟩

theorem Own.base {w : World} {B B' e size n cap : Nat} {a : Option Addr} {xs : List Value} (h : Own w B e size a n cap xs) (hB : B' ≤ B) : Own w B' e size a n cap xs := by
  obtain ⟨hl, h⟩ := h
  refine ⟨hl, ?_⟩
  rcases h with h | ⟨g, c, cur, hv, hg, r⟩
  · exact .inl h
  · exact .inr ⟨g, c, cur, hv, Nat.le_trans hB hg, r⟩

/-- A new block of literal cells, as a slice of all of it. -/
theorem Own.lit {w : World} {B : Nat} (e size n : Nat) (cs : Array Value) (hb : B ≤ w.heap.size) (hm : n ≤ maxLen) (hs : cs.size = n * size) :
    Own (w.alloc (.cells cs e)) B e size (some ⟨w.heap.size, 0, none⟩) n n cs.toList := by
  refine ⟨by simp [hs], .inr ⟨w.heap.size, n, cs, rfl, hb, heap_alloc_new w _, Nat.le_refl _, hm, hs, ?_⟩⟩
  rw [List.take_of_length_le (by simp [hs])]

/-- append(s, x...) where s is the call's own, x whatever reads as cells. -/
theorem run_append_rd {P : Program} (w : World) (B : Nat) (t ty e : TypeId) (i : TypeInfo) (z : Value) (size bytes : Nat) (ht : P.underlying t = some (.slice e)) (hi : P.info? e = some i) (hz : i.zero = some z)
    (hsize : i.size = size) (hby : i.bytes = bytes) (hzs : z.cells.size = size) (hsz : 0 < size)
    (a : Option Addr) (n cap : Nat) (xs : List Value) (hown : Own w B e size a n cap xs)
    (b : Option Addr) (m c : Nat) (news : List Value) (hr : Rd w size b m c news) (h1 : ∀ u ∈ news, u.oneCell' = true)
    (hbytes : (n + m) * bytes ≤ 140737488355328) (hn : n + m ≤ 140737488355328) (hbase : B ≤ w.heap.size) :
    ∃ a' cap' w', (Builtin.append_ #[t, t] ty #[.slice a n cap, .slice b m c]).run P w = .ok (.slice a' (n + m) cap') w' ∧ Own w' B e size a' (n + m) cap' (xs ++ news) ∧ w.grownBy w' (Value.slice a n cap).ownBlock := by
  have h63 : n + m ≤ maxLen := by unfold maxLen; omega
  have form : ∀ (v' : Value) (w' : World), w'.ownsRow B e size v' (n + m) (xs ++ news) → ∃ a' cap', v' = .slice a' (n + m) cap' := by
    intro v' w' h
    rcases h.2 with ⟨rfl, h0⟩ | ⟨g, cp, _, rfl, _⟩
    · exact ⟨none, 0, by rw [h0]⟩
    · exact ⟨_, _, rfl⟩
  cases b with
  | some x =>
    obtain ⟨v', w', hrun, h2, h3, _⟩ := run_append_own (P := P) w B t ty e i z size bytes ht hi hz hsize hby hzs hsz (.slice a n cap) n xs hown x m c news hr.len (fun j u hu => hr.cell x rfl j u hu) h1 h63 hbytes hbase
    obtain ⟨a', cap', rfl⟩ := form v' w' h2
    exact ⟨a', cap', w', hrun, h2, h3⟩
  | none =>
    have hc0 := hr.nul rfl
    have hm0 : m = 0 := by have := hr.le; omega
    subst hm0; subst hc0
    have hn0 : news = [] := List.eq_nil_of_length_eq_zero (by simpa using hr.len)
    subst hn0
    have hle := hown.rd.le
    refine ⟨a, cap, w, ?_, by simpa using hown, ⟨rfl, rfl, rfl, Nat.le_refl _, fun _ _ _ => rfl⟩⟩
    cases a with
    | none => simp [Builtin.append_, run_underlying ht, sizeOf, typeInfo, hi, Builtin.lenOf, Builtin.firstCells, hle]
    | some y => simp [Builtin.append_, run_underlying ht, sizeOf, typeInfo, hi, Builtin.lenOf, Builtin.firstCells, loadCells, hle, storeCells]

/-- The same in a walk: the world behind it keeps what lay below B, and every block but the slice's own. -/
theorem wpList_append {P : Program} {w : World} {ops : Array Oper} {rest : List Oper} {o : Oper} {act : Act} {Q : Exit → Act → World → Prop} (hgd : o.guard = none) (s x : Operand) (t : TypeId)
    (ho : o.op = .call { callee := .builtin .append, args := #[s, x], argTypes := #[t, t] })
    (B : Nat) (e : TypeId) (i : TypeInfo) (z : Value) (size bytes : Nat) (ht : P.underlying t = some (.slice e)) (hi : P.info? e = some i) (hz : i.zero = some z)
    (hsize : i.size = size) (hby : i.bytes = bytes) (hzs : z.cells.size = size) (hsz : 0 < size)
    (a : Option Addr) (n cap : Nat) (xs : List Value) (hs : act.eval s = .slice a n cap) (hown : Own w B e size a n cap xs)
    (b : Option Addr) (m c : Nat) (news : List Value) (hx : act.eval x = .slice b m c) (hr : Rd w size b m c news) (h1 : ∀ u ∈ news, u.oneCell' = true)
    (hbytes : (n + m) * bytes ≤ 140737488355328) (hn : n + m ≤ 140737488355328) (hbase : B ≤ w.heap.size)
    (h : ∀ a' cap' w', Own w' B e size a' (n + m) cap' (xs ++ news) → w.grownBy w' (Value.slice a n cap).ownBlock → wpList P ops Q rest (act.put o.dst (.slice a' (n + m) cap')) w') : wpList P ops Q (o :: rest) act w := by
  obtain ⟨a', cap', w', hrun, h2, h3⟩ := run_append_rd (P := P) w B t o.type e i z size bytes ht hi hz hsize hby hzs hsz a n cap xs hown b m c news hr h1 hbytes hn hbase
  refine wpList_plain hgd fun K hK => ?_
  unfold Oper.wp execOp
  simp only [ho, resolve, invoke, builtin, Sem.run_bind, Sem.run_pure, Result.andThen_ok, List.map_toArray, List.map_cons, List.map_nil, hs, hx, hrun]
  exact hK _ _ (h _ _ _ h2 h3)

/-- A string of bytes. -/
def bstr (l : List UInt8) : ByteArray := ⟨l.toArray⟩
@[simp] theorem bstr_toList (l : List UInt8) : (bstr l).toList = l := ByteArray.toList_mk l
theorem bstr_size (l : List UInt8) : (bstr l).size = l.length := by simp [bstr, ByteArray.size]

theorem run_add_bstr {P : Program} (W : World) (x y : List UInt8) (h : x.length + y.length < 70368744177664) : (Op.stringOp .add (bstr x) (bstr y)).run P W = .ok (.string (bstr (x ++ y))) W := by
  rw [run_string_add_sum W _ _ (by rw [bstr_size, bstr_size]; omega)]
  unfold bstr
  rw [ByteArray.mk_append_mk]

theorem run_convert_rd {P : Program} {w : World} (src e dst : TypeId) (hs : P.underlying src = some (.slice e)) (he : P.underlying e = some (.int .u8)) (hd : P.underlying dst = some .string)
    {a : Option Addr} {n cap : Nat} {l : List UInt8} (hr : Rd w 1 a n cap (bc l)) : (convert src dst (.slice a n cap)).run P w = .ok (.string (bstr l)) w := by
  have hlen : l.length = n := by simpa using hr.len
  cases a with
  | none =>
    have h0 := hr.nul rfl
    have h1 := hr.le
    obtain rfl : l = [] := List.eq_nil_of_length_eq_zero (by omega)
    rw [run_convert_bytes_nil w src e hs he n cap dst hd]
    rfl
  | some x =>
    have hl : (loadCells x n).run P w = .ok ((l.map fun c => (c.toNat : Int)).map (Value.int .u8)).toArray w := by
      have := run_loadCells_list (P := P) w x (bc l) (fun j v hj => hr.cell x rfl j v hj)
      rw [bc_length, hlen] at this
      rw [this]
      simp [bc]
    rw [run_convert_bytes_string w src dst e _ n cap hs he hd, run_bytesToString w _ n cap _ hl, foldl_push_bytes]
    congr 2
    simp [bstr, ByteArray.empty, ByteArray.emptyWithCapacity]
    refine List.map_id'' (f := _) ?_ l
    intro c
    simp

theorem Own.below {w0 w w' : World} {B e size n cap : Nat} {a : Option Addr} {xs : List Value} (h : Own w B e size a n cap xs) (hb : Below B w0 w) (hB : B ≤ w.heap.size) (hg : w.grownBy w' (Value.slice a n cap).ownBlock) : Below B w0 w' :=
  hb.grown hg hB fun k hk => (World.ownsRow.lt h k hk).1

/-- copy(dst, src): dst a part of a row of the call's own (elements of one cell), src no longer than dst. -/
theorem wpList_copy {P : Program} {w : World} {ops : Array Oper} {rest : List Oper} {o : Oper} {act : Act} {Q : Exit → Act → World → Prop} (hgd : o.guard = none) (d s : Operand) (dT sT : TypeId)
    (ho : o.op = .call { callee := .builtin .copy, args := #[d, s], argTypes := #[dT, sT] }) (elem : TypeId) (hu : P.underlying dT = some (.slice elem)) (hsz : (P.info? elem).map (·.size) = some 1)
    (B e g n cap : Nat) (xs : List Value) (hown : Own w B e 1 (some ⟨g, 0, none⟩) n cap xs) (off dLen dCap : Nat) (hd : act.eval d = .slice (some ⟨g, off, none⟩) dLen dCap)
    (sa : Option Addr) (q sc : Nat) (cs : List Value) (hs : act.eval s = .slice sa q sc) (hr : Rd w 1 sa q sc cs) (hq : q ≤ dLen) (hfit : off + q ≤ n) (h1 : ∀ u ∈ cs, u.oneCell' = true)
    (hK : ∀ w', Own w' B e 1 (some ⟨g, 0, none⟩) n cap (splice xs off cs) → w.grownBy w' (some g) → wpList P ops Q rest (act.put o.dst (goInt q)) w') : wpList P ops Q (o :: rest) act w := by
  have hcl : cs.length = q := by simpa using hr.len
  have hO := hown
  obtain ⟨hl, h⟩ := hown
  rcases h with ⟨hv, _⟩ | ⟨g', c', cur, hv, hBg, hh, hn, hm, hcs, ht⟩
  · simp at hv
  · simp only [Value.slice.injEq, Option.some.injEq, Addr.mk.injEq, and_true, true_and] at hv
    obtain ⟨rfl, rfl⟩ := hv
    by_cases h0 : q = 0
    · subst h0
      obtain rfl : cs = [] := List.eq_nil_of_length_eq_zero hcl
      refine wpList_copy_nothing hgd d s dT sT ho elem hu hsz _ _ dLen dCap 0 sc hd hs (by simp) ?_
      exact hK w (by simpa [splice] using hO) ⟨rfl, rfl, rfl, Nat.le_refl _, fun _ _ _ => rfl⟩
    · cases sa with
      | none => have := hr.nul rfl; have := hr.le; omega
      | some x =>
        refine wpList_copy_own hgd d s dT sT ho elem hu hsz g off dLen dCap x q sc hd hs cur e hh cs (by rw [hcl]; exact (Nat.min_eq_left hq).symm) (fun j v hj => hr.cell x rfl j v hj) (by rw [hcs, hcl]; omega) h1 ?_
        rw [hcl]
        refine hK _ ⟨?_, .inr ⟨g, cap, _, rfl, hBg, setRow_heap w g cur _ e _ hh, hn, hm, ?_, ?_⟩⟩ ⟨rfl, rfl, rfl, by simp [World.setRow], fun k _ hk => setRow_other w g k _ (fun e => hk (by simp [e]))⟩
        · rw [length_splice _ _ _ (by rw [hl, hcl]; omega), hl]
        · simp only [List.size_toArray, List.length_append, List.length_take, List.length_drop, Array.length_toList, hcl]
          omega
        · rw [← ht]
          have hcz : cur.toList.length = cap := by rw [Array.length_toList, hcs, Nat.mul_one]
          simp only [splice, Nat.mul_one, hcl]
          apply List.ext_getElem?
          intro j
          simp only [List.getElem?_take, List.getElem?_append, List.length_take, List.getElem?_drop, hcl, hcz]
          by_cases hj : j < n
          · simp only [hj, if_true]
            by_cases hj1 : j < min off cap
            · have : j < min off (min n cap) := by omega
              have h2 : j < off := by omega
              simp [hj1, this, h2]
            · have hno : ¬ j < min off (min n cap) := by omega
              simp only [hj1, hno, if_false]
              have e1 : min off cap = off := by omega
              have e2 : min off (min n cap) = off := by omega
              rw [e1, e2]
              by_cases hj2 : j - off < q
              · simp [hj2]
              · simp only [hj2, if_false]
                have : off + q + (j - off - q) < n := by omega
                simp [this]
          · simp only [hj, if_false]
            have h1 : ¬ j < min off (min n cap) := by omega
            have h2 : ¬ j - min off (min n cap) < q := by omega
            simp only [h1, h2, if_false]
            have : ¬ off + q + (j - min off (min n cap) - q) < n := by omega
            simp [this]

/-- A slice of bytes as the frame of a law's proof hands it in. -/
theorem rd_of_row {w : World} {a : Option Addr} {len cap : Nat} {zs : List Int}
    (h : (a = none ∧ len = 0 ∧ cap = 0 ∧ zs = []) ∨ ∃ x, a = some x ∧ len ≤ cap ∧ cap ≤ maxLen ∧ zs.length = cap ∧ (∀ i, i < zs.length → w.cell? (x.add i) = some (.int .u8 (zs.getD i 0))) ∧ ∀ n ∈ zs, (Lit.int .u8 n).wf = true) :
    ∃ l : List UInt8, Rd w 1 a len cap (bc l) := by
  rcases h with ⟨rfl, rfl, rfl, rfl⟩ | ⟨x, rfl, hl, hm, hz, hc, hw⟩
  · exact ⟨[], Rd.nil _ _⟩
  · have hwf : ∀ n ∈ zs, ((UInt8.ofNat n.toNat).toNat : Int) = n := by
      intro n hn
      have := hw n hn
      simp [Lit.wf, IntKind.min, IntKind.max, IntKind.signed, IntKind.bits] at this
      simp
      omega
    refine ⟨(zs.take len).map fun n => UInt8.ofNat n.toNat, ?_, hl, hm, fun h => (nomatch h), fun y hy j u hu => ?_⟩
    · simp; omega
    · simp only [Option.some.injEq] at hy
      subst hy
      have hj : j < len := by
        rcases Nat.lt_or_ge j len with h | h
        · exact h
        · rw [List.getElem?_eq_none (by simp; omega)] at hu; cases hu
      have hj2 : j < zs.length := by omega
      rw [bc_get _ j (by simp; omega)] at hu
      simp only [List.getElem_map, List.getElem_take, Option.some.injEq] at hu
      rw [hwf _ (List.getElem_mem hj2)] at hu
      rw [hc j hj2, ← hu]
      simp [List.getD, List.getElem?_eq_getElem hj2]

theorem wf_u64 {n : Int} (h : (Lit.int .u64 n).wf = true) : 0 ≤ n ∧ n < 18446744073709551616 := by
  simp [Lit.wf, IntKind.min, IntKind.max, IntKind.signed, IntKind.bits] at h
  omega
theorem wf_i64 {n : Int} (h : (Lit.int .i64 n).wf = true) : -9223372036854775808 ≤ n ∧ n < 9223372036854775808 := by
  simp [Lit.wf, IntKind.min, IntKind.max, IntKind.signed, IntKind.bits] at h
  omega
theorem wf_u32 {n : Int} (h : (Lit.int .u32 n).wf = true) : 0 ≤ n ∧ n < 4294967296 := by
  simp [Lit.wf, IntKind.min, IntKind.max, IntKind.signed, IntKind.bits] at h
  omega
end Go.Fl
