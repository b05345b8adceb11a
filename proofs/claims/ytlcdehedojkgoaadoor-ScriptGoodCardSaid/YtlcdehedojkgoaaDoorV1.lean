/- Values without memory: what a program's values stand for (slices as lists, strings as bytes), and how they lie in a world. No program in it. -/
import Derived.Test.YtlcdehedojkgoaaDoorLib
import Derived.CallsIn
namespace Go.Vx
open Go.RowKit Go.Fl

inductive Gr where
  | no | clip | tok (t : Nat) | own (e : TypeId)
  deriving DecidableEq, Inhabited

inductive V where
  | b (x : Bool) | i (k : IntKind) (n : Int) | s (l : List UInt8)
  | agg (cs : List V) | tup (vs : List V)
  | sl (sz : Nat) (es : List V) (g : Gr)
  | osl (o off len cap : Nat) | ptr (o off : Nat) | rp (cs : List V) | nilp
  | fn (f : FuncId) (caps : List V) | iface (t : TypeId) (v : V) | nilif | undef | yld (l : Nat)
  deriving Inhabited

def V.cells : V → List V
  | .agg cs => cs
  | v => [v]

def V.one : V → Bool
  | .agg _ => false
  | .tup _ => false
  | .undef => false
  | _ => true

/-- Values that lie where no one writes. S: the places that no one writes. -/
inductive PRel (w : World) (S : Addr → Prop) : V → Value → Prop
  | b (x : Bool) : PRel w S (.b x) (.bool x)
  | i (k : IntKind) (n : Int) : PRel w S (.i k n) (.int k n)
  | s (l : List UInt8) : PRel w S (.s l) (.string (bstr l))
  | agg (cs : List V) (ds : Array Value) (h1 : cs.all V.one = true) (hl : ds.size = cs.length) (h : ∀ (j : Nat) v c, cs[j]? = some v → ds[j]? = some c → PRel w S v c) : PRel w S (.agg cs) (.agg ds)
  | tup (cs : List V) (ds : Array Value) (hl : ds.size = cs.length) (h : ∀ (j : Nat) v c, cs[j]? = some v → ds[j]? = some c → PRel w S v c) : PRel w S (.tup cs) (.tuple ds)
  | sl (sz : Nat) (es : List V) (g : Gr) (a : Option Addr) (len cap : Nat) (cv : Nat → Value) (hlen : es.length = len) (hle : len ≤ cap) (hmax : cap ≤ maxLen) (hnul : a = none → cap = 0)
      (hg : g = .no ∨ (g = .clip ∧ cap = len)) (hsz : ∀ (j : Nat) v, es[j]? = some v → v.cells.length = sz)
      (hcell : ∀ x (j : Nat) v (k : Nat) u, a = some x → es[j]? = some v → v.cells[k]? = some u → u.one = true ∧ S (x.add (j * sz + k)) ∧ w.cell? (x.add (j * sz + k)) = some (cv (j * sz + k)))
      (hrel : ∀ (j : Nat) v (k : Nat) u, es[j]? = some v → v.cells[k]? = some u → PRel w S u (cv (j * sz + k))) : PRel w S (.sl sz es g) (.slice a len cap)
  | rp (cs : List V) (x : Addr) (cv : Nat → Value) (hcell : ∀ (k : Nat) u, cs[k]? = some u → u.one = true ∧ S (x.add k) ∧ w.cell? (x.add k) = some (cv k))
      (hrel : ∀ (k : Nat) u, cs[k]? = some u → PRel w S u (cv k)) : PRel w S (.rp cs) (.pointer (some x))
  | nilp : PRel w S .nilp (.pointer none)
  | fn (f : FuncId) (cs : List V) (ds : Array Value) (hl : ds.size = cs.length) (h : ∀ (j : Nat) v c, cs[j]? = some v → ds[j]? = some c → PRel w S v c) : PRel w S (.fn f cs) (.func (.func f) #[] ds)
  | iface (t : TypeId) (v : V) (c : Value) (h : PRel w S v c) : PRel w S (.iface t v) (.iface t c)
  | nilif : PRel w S .nilif .nilIface
  | yld (l : Nat) : PRel w S (.yld l) (.func (.yield l) #[] #[])

theorem PRel.mono {w w' : World} {S S' : Addr → Prop} {v : V} {c : Value} (h : PRel w S v c) (hs : ∀ p x, S p → w.cell? p = some x → S' p ∧ w'.cell? p = some x) : PRel w' S' v c := by
  induction h with
  | b x => exact .b x
  | i k n => exact .i k n
  | s l => exact .s l
  | agg cs ds h1 hl _ ih => exact .agg cs ds h1 hl ih
  | tup cs ds hl _ ih => exact .tup cs ds hl ih
  | sl sz es g a len cap cv hlen hle hmax hnul hg hsz hcell _ ih =>
    exact .sl sz es g a len cap cv hlen hle hmax hnul hg hsz (fun x j v k u ha hj hk => by
      obtain ⟨h1, h2, h3⟩ := hcell x j v k u ha hj hk
      obtain ⟨h4, h5⟩ := hs _ _ h2 h3
      exact ⟨h1, h4, h5⟩) ih
  | rp cs x cv hcell _ ih =>
    exact .rp cs x cv (fun k u hk => by
      obtain ⟨h1, h2, h3⟩ := hcell k u hk
      obtain ⟨h4, h5⟩ := hs _ _ h2 h3
      exact ⟨h1, h4, h5⟩) ih
  | nilp => exact .nilp
  | fn f cs ds hl _ ih => exact .fn f cs ds hl ih
  | iface t v c _ ih => exact .iface t v c ih
  | nilif => exact .nilif
  | yld l => exact .yld l

theorem PRel.oneCell {w : World} {S : Addr → Prop} {v : V} {c : Value} (h : PRel w S v c) (h1 : v.one = true) : c.oneCell' = true := by
  cases h <;> first | rfl | simp [V.one] at h1

theorem PRel.noclip {w : World} {S : Addr → Prop} {sz : Nat} {es : List V} {g : Gr} {c : Value} (h : PRel w S (.sl sz es g) c) : PRel w S (.sl sz es .no) c := by
  cases h with
  | sl _ _ _ a len cap cv hlen hle hmax hnul hg hsz hcell hrel => exact .sl sz es .no a len cap cv hlen hle hmax hnul (.inl rfl) hsz hcell hrel

/-- What stands behind a number of the walk's own: nothing yet; nothing any more; a block of cells; a slice that may grow; a slice without room. -/
inductive Ent where
  | none | dead
  | obj (g : Nat)
  | tok (a : Option Addr) (n cap : Nat) (e : TypeId) (sz : Nat)
  | clip (a : Option Addr) (n : Nat)

def Ent.blk : Ent → Option Nat
  | .obj g => some g
  | .tok (some x) _ _ _ _ => some x.block
  | _ => Option.none

structure Cx where
  w : World
  m : Nat → Ent
  E : Addr → Prop

/-- The places that no one writes any more. -/
def Cx.S (C : Cx) (p : Addr) : Prop := C.E p ∧ (∀ o g, C.m o = .obj g → p.block ≠ g) ∧ (∀ t x n cap e sz, C.m t = .tok (some x) n cap e sz → p.block = x.block → p.off < n * sz)

structure Ext (C C' : Cx) : Prop where
  os : C'.w.os = C.w.os
  tape : C'.w.tape = C.w.tape
  output : C'.w.output = C.w.output
  size : C.w.heap.size ≤ C'.w.heap.size
  E : C'.E = C.E
  blk : ∀ b, b < C.w.heap.size → (∀ o, (C.m o).blk ≠ some b) → C'.w.heap[b]? = C.w.heap[b]?
  cell : ∀ p x, C.S p → C.w.cell? p = some x → C'.S p ∧ C'.w.cell? p = some x
  ent : ∀ o, C.m o ≠ .none → C'.m o = C.m o ∨ C'.m o = .dead

theorem Ext.refl (C : Cx) : Ext C C := ⟨rfl, rfl, rfl, Nat.le_refl _, rfl, fun _ _ _ => rfl, fun _ _ h1 h2 => ⟨h1, h2⟩, fun _ _ => .inl rfl⟩

/-- The entries' blocks, one step on: no block that was there comes in anew. -/
structure Ext' (C C' : Cx) : Prop extends Ext C C' where
  fresh : ∀ b, b < C.w.heap.size → (∃ o, (C'.m o).blk = some b) → ∃ o, (C.m o).blk = some b

theorem Ext'.refl (C : Cx) : Ext' C C := ⟨.refl C, fun _ _ h => h⟩

theorem Ext'.trans {A B C : Cx} (h : Ext' A B) (k : Ext' B C) : Ext' A C where
  os := k.os.trans h.os
  tape := k.tape.trans h.tape
  output := k.output.trans h.output
  size := Nat.le_trans h.size k.size
  E := k.E.trans h.E
  blk b hb hn := by
    refine (k.blk b (Nat.lt_of_lt_of_le hb h.size) fun o ho => ?_).trans (h.blk b hb hn)
    obtain ⟨o', ho'⟩ := h.fresh b hb ⟨o, ho⟩
    exact hn o' ho'
  cell p x hp hx := by
    obtain ⟨h1, h2⟩ := h.cell p x hp hx
    exact k.cell p x h1 h2
  ent o ho := by
    rcases h.ent o ho with e | e
    · rcases k.ent o (by rw [e]; exact ho) with e' | e'
      · exact .inl (e'.trans e)
      · exact .inr e'
    · rcases k.ent o (by rw [e]; simp) with e' | e'
      · exact .inr (e'.trans e)
      · exact .inr e'
  fresh b hb hc := h.fresh b hb (k.fresh b (Nat.lt_of_lt_of_le hb h.size) hc)

inductive VRel (C : Cx) : V → Value → Prop
  | pure (v : V) (c : Value) (h : PRel C.w C.S v c) : VRel C v c
  | undef (c : Value) : VRel C .undef c
  | tok (sz : Nat) (es : List V) (t : Nat) (c : Value) (h : PRel C.w C.S (.sl sz es .no) c) (hm : C.m t ≠ .none)
      (ht : ∀ a n cap e z, C.m t = .tok a n cap e z → c = .slice a n cap ∧ z = sz) (hc : ∀ a n, C.m t = .clip a n → c = .slice a n n) : VRel C (.sl sz es (.tok t)) c
  | ptr (o off : Nat) (x : Addr) (hm : C.m o ≠ .none) (h : ∀ g, C.m o = .obj g → x = ⟨g, off, none⟩) : VRel C (.ptr o off) (.pointer (some x))
  | osl (o off len cap : Nat) (x : Addr) (cp : Nat) (hm : C.m o ≠ .none) (hle : len ≤ cap) (hc : cap ≤ cp) (hmax : cp ≤ maxLen) (h : ∀ g, C.m o = .obj g → x = ⟨g, off, none⟩) : VRel C (.osl o off len cap) (.slice (some x) len cp)
  | agg (cs : List V) (ds : Array Value) (h1 : cs.all V.one = true) (hl : ds.size = cs.length) (h : ∀ (j : Nat) v c, cs[j]? = some v → ds[j]? = some c → VRel C v c) : VRel C (.agg cs) (.agg ds)
  | tup (cs : List V) (ds : Array Value) (hl : ds.size = cs.length) (h : ∀ (j : Nat) v c, cs[j]? = some v → ds[j]? = some c → VRel C v c) : VRel C (.tup cs) (.tuple ds)
  | fn (f : FuncId) (cs : List V) (ds : Array Value) (hl : ds.size = cs.length) (h : ∀ (j : Nat) v c, cs[j]? = some v → ds[j]? = some c → VRel C v c) : VRel C (.fn f cs) (.func (.func f) #[] ds)
  | iface (t : TypeId) (v : V) (c : Value) (h : VRel C v c) : VRel C (.iface t v) (.iface t c)

theorem VRel.mono0 {C C' : Cx} {v : V} {c : Value} (h : VRel C v c) (hcell : ∀ p x, C.S p → C.w.cell? p = some x → C'.S p ∧ C'.w.cell? p = some x) (hent : ∀ o, C.m o ≠ .none → C'.m o = C.m o ∨ C'.m o = .dead) : VRel C' v c := by
  induction h with
  | pure v c h => exact .pure v c (h.mono hcell)
  | undef c => exact .undef c
  | tok sz es t c h hm ht hc =>
    refine .tok sz es t c (h.mono hcell) ?_ ?_ ?_
    · rcases hent t hm with e | e <;> rw [e]
      · exact hm
      · simp
    · intro a n cap e z hq
      rcases hent t hm with e' | e' <;> rw [e'] at hq
      · exact ht a n cap e z hq
      · cases hq
    · intro a n hq
      rcases hent t hm with e' | e' <;> rw [e'] at hq
      · exact hc a n hq
      · cases hq
  | ptr o off x hm h =>
    refine .ptr o off x ?_ fun g hg => ?_
    · rcases hent o hm with e | e <;> rw [e]
      · exact hm
      · simp
    · rcases hent o hm with e | e <;> rw [e] at hg
      · exact h g hg
      · cases hg
  | osl o off len cap x cp hm hle hc hmax h =>
    refine .osl o off len cap x cp ?_ hle hc hmax fun g hg => ?_
    · rcases hent o hm with e | e <;> rw [e]
      · exact hm
      · simp
    · rcases hent o hm with e | e <;> rw [e] at hg
      · exact h g hg
      · cases hg
  | agg cs ds h1 hl _ ih => exact .agg cs ds h1 hl ih
  | tup cs ds hl _ ih => exact .tup cs ds hl ih
  | fn f cs ds hl _ ih => exact .fn f cs ds hl ih
  | iface t v c _ ih => exact .iface t v c ih

theorem VRel.mono {C C' : Cx} {v : V} {c : Value} (h : VRel C v c) (he : Ext C C') : VRel C' v c := h.mono0 he.cell he.ent

inductive Ob where
  | cells (cs : List V)
  | tok (e : TypeId)

structure St where
  h : Nat → Option Ob
  n : Nat

def upd {α : Type} (f : Nat → α) (k : Nat) (x : α) : Nat → α := fun j => if j = k then x else f j
theorem upd_same {α : Type} (f : Nat → α) (k : Nat) (x : α) : upd f k x k = x := if_pos rfl
theorem upd_ne {α : Type} (f : Nat → α) {k j : Nat} (x : α) (h : j ≠ k) : upd f k x j = f j := if_neg h

/-- The cells of an object. -/
def ObjRel (C : Cx) (g : Nat) (cs : List V) : Prop :=
  ∃ cur e, C.w.heap[g]? = some (.cells cur e (0, 0)) ∧ cs.length ≤ cur.size ∧ ∀ (j : Nat) v, cs[j]? = some v → v.one = true ∧ ∃ c, cur[j]? = some c ∧ VRel C v c ∧ c.oneCell' = true

end Go.Vx
