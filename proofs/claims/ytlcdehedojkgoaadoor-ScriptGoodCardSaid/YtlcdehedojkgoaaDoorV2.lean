/- How a world and what is known of it go on: new blocks, a new object, a store, a slice that grows. No program in it. -/
import Derived.Test.YtlcdehedojkgoaaDoorGl
namespace Go.Vx
open Go.RowKit Go.Fl
set_option linter.unusedVariables false

structure StRel (C : Cx) (σ : St) : Prop where
  new : ∀ p : Addr, C.w.heap.size ≤ p.block → C.E p
  id : ∀ o, C.m o ≠ .none → o < σ.n
  obj : ∀ o cs, σ.h o = some (.cells cs) → ∃ g, C.m o = .obj g ∧ ObjRel C g cs
  tok : ∀ t e, σ.h t = some (.tok e) → (∃ a, C.m t = .clip a 0) ∨ ∃ a n cap sz xs, C.m t = .tok a n cap e sz ∧ Own C.w 0 e sz a n cap xs
  live : ∀ o g, C.m o = .obj g → ∃ cs, σ.h o = some (.cells cs)
  livet : ∀ t a n cap e sz, C.m t = .tok a n cap e sz → σ.h t = some (.tok e)
  inj : ∀ o o' g, (C.m o).blk = some g → (C.m o').blk = some g → o = o'
  lt : ∀ o g, (C.m o).blk = some g → g < C.w.heap.size
  own : ∀ o g, (C.m o).blk = some g → ∀ p : Addr, p.block = g → C.E p
  glob : ∀ g cs, gl g = some cs → VRel C (.rp cs) (.pointer (some ⟨g, 0, none⟩))

theorem Ent.blk_none : Ent.none.blk = Option.none := rfl

theorem StRel.below {C : Cx} {σ : St} (h : StRel C σ) {w' : World} (hb : Below C.w.heap.size C.w w') : Ext' C { C with w := w' } where
  os := hb.os
  tape := hb.tape
  output := hb.output
  size := hb.size
  E := rfl
  blk b hb' _ := hb.block b hb'
  cell p x hp hx := ⟨hp, (hb.cell (World.block_lt_of_cell? _ _ hx)).trans hx⟩
  ent _ _ := .inl rfl
  fresh _ _ h := h

theorem ObjRel.mono {C C' : Cx} {g : Nat} {cs : List V} (h : ObjRel C g cs) (he : Ext C C') (hg : C'.w.heap[g]? = C.w.heap[g]?) : ObjRel C' g cs := by
  obtain ⟨cur, e, h1, h2, h3⟩ := h
  exact ⟨cur, e, hg.trans h1, h2, fun j v hj => by
    obtain ⟨ho, c, hc, hr, h1c⟩ := h3 j v hj
    exact ⟨ho, c, hc, hr.mono he, h1c⟩⟩

theorem Own.block {w w' : World} {B e sz n cap : Nat} {a : Option Addr} {xs : List Value} (h : Own w B e sz a n cap xs) (hb : ∀ x, a = some x → w'.heap[x.block]? = w.heap[x.block]?) : Own w' B e sz a n cap xs := by
  obtain ⟨hl, h⟩ := h
  refine ⟨hl, ?_⟩
  rcases h with h | ⟨g, c, cur, hv, hg, hh, r⟩
  · exact .inl h
  · simp only [Value.slice.injEq] at hv
    obtain ⟨rfl, h2, rfl⟩ := hv
    exact .inr ⟨g, _, cur, rfl, hg, (hb _ rfl).trans hh, r⟩

/-- Another world, the entries as they were: what the entries' blocks hold is as it was. -/
theorem StRel.world {C : Cx} {σ : St} (h : StRel C σ) {w' : World} (he : Ext' C { C with w := w' }) (hb : ∀ o g, (C.m o).blk = some g → w'.heap[g]? = C.w.heap[g]?) : StRel { C with w := w' } σ where
  new p hp := h.new p (Nat.le_trans he.size hp)
  id := h.id
  obj o cs ho := by
    obtain ⟨g, hg, hr⟩ := h.obj o cs ho
    exact ⟨g, hg, hr.mono he.toExt (hb o g (by rw [hg]; rfl))⟩
  tok t e ht := by
    rcases h.tok t e ht with h | ⟨a, n, cap, sz, xs, hm, ho⟩
    · exact .inl h
    · refine .inr ⟨a, n, cap, sz, xs, hm, Own.block ho fun x hx => hb t _ ?_⟩
      rw [hm, hx]; rfl
  live := h.live
  livet := h.livet
  inj := h.inj
  lt o g hg := Nat.lt_of_lt_of_le (h.lt o g hg) he.size
  own := h.own
  glob g cs hgl := (h.glob g cs hgl).mono he.toExt

/-- New blocks, no entry. -/
theorem StRel.grow {C : Cx} {σ : St} (h : StRel C σ) {w' : World} (hb : Below C.w.heap.size C.w w') : Ext' C { C with w := w' } ∧ StRel { C with w := w' } σ :=
  ⟨h.below hb, h.world (h.below hb) fun o g hg => hb.block g (h.lt o g hg)⟩

/-- An entry that is not there yet. -/
theorem StRel.absent {C : Cx} {σ : St} (h : StRel C σ) : C.m σ.n = .none := by
  cases hm : C.m σ.n with
  | none => rfl
  | _ => exact absurd (h.id σ.n (by rw [hm]; simp)) (Nat.lt_irrefl _)

theorem Cx.S_of {C C' : Cx} {p : Addr} (hE : C'.E = C.E) (hp : C.S p)
    (ho : ∀ o g, C'.m o = .obj g → (∃ o', C.m o' = .obj g) ∨ p.block ≠ g)
    (ht : ∀ t x n cap e sz, C'.m t = .tok (some x) n cap e sz → p.block = x.block → p.off < n * sz ∨ ∃ t' x' n' cap' e' sz', C.m t' = .tok (some x') n' cap' e' sz' ∧ x'.block = x.block ∧ n' * sz' ≤ n * sz) : C'.S p := by
  obtain ⟨h1, h2, h3⟩ := hp
  refine ⟨by rw [hE]; exact h1, fun o g hg => ?_, fun t x n cap e sz hm hb => ?_⟩
  · rcases ho o g hg with ⟨o', ho'⟩ | h
    · exact h2 o' g ho'
    · exact h
  · rcases ht t x n cap e sz hm hb with h | ⟨t', x', n', cap', e', sz', hm', hx', hle⟩
    · exact h
    · exact Nat.lt_of_lt_of_le (h3 t' x' n' cap' e' sz' hm' (hb.trans hx'.symm)) hle

/-- A new object, in a block that was not there. -/
theorem StRel.newObjAt {C : Cx} {σ : St} (h : StRel C σ) (w' : World) (g0 : Nat) (hb : Below C.w.heap.size C.w w') (hg0 : C.w.heap.size ≤ g0) (cs : List V) (cur : Array Value) (e : TypeId) (hh : w'.heap[g0]? = some (.cells cur e (0, 0))) (hl : cs.length ≤ cur.size)
    (hr : ∀ (j : Nat) v, cs[j]? = some v → v.one = true ∧ ∃ c, cur[j]? = some c ∧ VRel C v c ∧ c.oneCell' = true) :
    Ext' C ⟨w', upd C.m σ.n (.obj g0), C.E⟩ ∧ StRel ⟨w', upd C.m σ.n (.obj g0), C.E⟩ ⟨upd σ.h σ.n (some (.cells cs)), σ.n + 1⟩ := by
  have habs := h.absent
  have hlt0 : g0 < w'.heap.size := (Array.getElem?_eq_some_iff.1 hh).1
  have hx : Ext' C ⟨w', upd C.m σ.n (.obj g0), C.E⟩ := by
    refine ⟨⟨hb.os, hb.tape, hb.output, hb.size, rfl, fun b hb' _ => hb.block b hb', fun p x hp hx => ?_, fun o ho => ?_⟩, fun b hb' ⟨o, ho⟩ => ?_⟩
    · have hlt := World.block_lt_of_cell? _ _ hx
      refine ⟨Cx.S_of (C := C) rfl hp (fun o g hg => ?_) (fun t y n cap e' sz hm hb => ?_), (hb.cell hlt).trans hx⟩
      · simp only [upd] at hg
        split at hg
        · simp only [Ent.obj.injEq] at hg; exact .inr (by omega)
        · exact .inl ⟨o, hg⟩
      · simp only [upd] at hm
        split at hm
        · cases hm
        · exact .inr ⟨t, y, n, cap, e', sz, hm, rfl, Nat.le_refl _⟩
    · left
      refine upd_ne _ _ fun he => ho (by rw [he]; exact habs)
    · simp only [upd] at ho
      split at ho
      · simp only [Ent.blk, Option.some.injEq] at ho; omega
      · exact ⟨o, ho⟩
  refine ⟨hx, ?_⟩
  have key : ∀ o g, (upd C.m σ.n (.obj g0) o).blk = some g → (o = σ.n ∧ g = g0) ∨ (o ≠ σ.n ∧ (C.m o).blk = some g ∧ g < C.w.heap.size) := by
    intro o g hg
    simp only [upd] at hg
    split at hg
    · rename_i he; simp only [Ent.blk, Option.some.injEq] at hg; exact .inl ⟨he, hg.symm⟩
    · rename_i he; exact .inr ⟨he, hg, h.lt o g hg⟩
  refine ⟨fun p hp => h.new p (Nat.le_trans hb.size hp), fun o ho => ?_, fun o cs' ho => ?_, fun t e1 ht => ?_, fun o g hg => ?_, fun t a n cap e' sz hm => ?_, fun o o' g h1 h2 => ?_, fun o g hg => ?_, fun o g hg p hp => ?_, fun g cs hgl => (h.glob g cs hgl).mono hx.toExt⟩
  · show o < σ.n + 1
    by_cases he : o = σ.n
    · omega
    · have := h.id o (by simpa [upd, he] using ho); omega
  · simp only [upd] at ho
    split at ho
    · rename_i he
      simp only [Option.some.injEq, Ob.cells.injEq] at ho
      subst ho
      refine ⟨g0, by simp [upd, he], cur, e, hh, hl, fun j v hj => ?_⟩
      obtain ⟨h1, c, h2, h3, h4⟩ := hr j v hj
      exact ⟨h1, c, h2, h3.mono hx.toExt, h4⟩
    · rename_i he
      obtain ⟨g, hg, hr'⟩ := h.obj o cs' ho
      exact ⟨g, by simp [upd, he, hg], hr'.mono hx.toExt (hb.block g (h.lt o g (by rw [hg]; rfl)))⟩
  · simp only [upd] at ht
    split at ht
    · cases ht
    · rename_i he
      rcases h.tok t e1 ht with ⟨a, hm⟩ | ⟨a, n, cap, sz, xs, hm, ho⟩
      · exact .inl ⟨a, by simp [upd, he, hm]⟩
      · refine .inr ⟨a, n, cap, sz, xs, by simp [upd, he, hm], Own.block ho fun x hx' => hb.block _ (h.lt t _ ?_)⟩
        rw [hm, hx']; rfl
  · simp only [upd] at hg ⊢
    split at hg
    · rename_i he; exact ⟨cs, by simp [he]⟩
    · rename_i he; obtain ⟨cs', hcs⟩ := h.live o g hg; exact ⟨cs', by simp [he, hcs]⟩
  · simp only [upd] at hm ⊢
    split at hm
    · cases hm
    · rename_i he; simp [he]; exact h.livet t a n cap e' sz hm
  · rcases key o g h1 with ⟨a1, b1⟩ | ⟨a1, b1, c1⟩ <;> rcases key o' g h2 with ⟨a2, b2⟩ | ⟨a2, b2, c2⟩
    · rw [a1, a2]
    · omega
    · omega
    · exact h.inj o o' g b1 b2
  · rcases key o g hg with ⟨a1, b1⟩ | ⟨a1, b1, c1⟩
    · rw [b1]; exact hlt0
    · exact Nat.lt_of_lt_of_le c1 hb.size
  · rcases key o g hg with ⟨a1, b1⟩ | ⟨a1, b1, c1⟩
    · exact h.new p (by omega)
    · exact h.own o g b1 p hp

/-- A new object. -/
theorem StRel.newObj {C : Cx} {σ : St} (h : StRel C σ) (cs : List V) (cur : Array Value) (e : TypeId) (hl : cs.length ≤ cur.size)
    (hr : ∀ (j : Nat) v, cs[j]? = some v → v.one = true ∧ ∃ c, cur[j]? = some c ∧ VRel C v c ∧ c.oneCell' = true) :
    Ext' C ⟨C.w.alloc (.cells cur e), upd C.m σ.n (.obj C.w.heap.size), C.E⟩ ∧ StRel ⟨C.w.alloc (.cells cur e), upd C.m σ.n (.obj C.w.heap.size), C.E⟩ ⟨upd σ.h σ.n (some (.cells cs)), σ.n + 1⟩ :=
  h.newObjAt _ C.w.heap.size ((Below.refl _ _).alloc (Nat.le_refl _) _) (Nat.le_refl _) cs cur e (heap_alloc_new _ _) hl hr

/-- An object's cells are written. -/
theorem StRel.setObj {C : Cx} {σ : St} (h : StRel C σ) (o g : Nat) (hg : C.m o = .obj g) (cs : List V) (old cur : Array Value) (e : TypeId) (hh : C.w.heap[g]? = some (.cells old e (0, 0))) (hl : cs.length ≤ cur.size)
    (hr : ∀ (j : Nat) v, cs[j]? = some v → v.one = true ∧ ∃ c, cur[j]? = some c ∧ VRel C v c ∧ c.oneCell' = true) :
    Ext' C { C with w := C.w.setRow g cur } ∧ StRel { C with w := C.w.setRow g cur } ⟨upd σ.h o (some (.cells cs)), σ.n⟩ := by
  have hx : Ext' C { C with w := C.w.setRow g cur } := by
    refine ⟨⟨rfl, rfl, rfl, by simp, rfl, fun b hb hn => setRow_other _ _ _ _ fun he => hn o (by rw [hg, he]; rfl), fun p x hp hx => ⟨hp, ?_⟩, fun o ho => .inl rfl⟩, fun b hb h => h⟩
    exact (cell_setRow_other _ _ _ _ (hp.2.1 o g hg)).trans hx
  have oth : ∀ o' g', (C.m o').blk = some g' → o' ≠ o → (C.w.setRow g cur).heap[g']? = C.w.heap[g']? := fun o' g' h' hne =>
    setRow_other _ _ _ _ fun he => hne (h.inj o' o g (by rw [h', he]) (by rw [hg]; rfl))
  refine ⟨hx, ⟨fun p hp => h.new p (by simpa using hp), h.id, fun o' cs' ho => ?_, fun t e1 ht => ?_, fun o' g' hg' => ?_, fun t a n cap e' sz hm => ?_, h.inj, fun o' g' hg' => by simpa using h.lt o' g' hg', h.own, fun g cs hgl => (h.glob g cs hgl).mono hx.toExt⟩⟩
  · simp only [upd] at ho
    split at ho
    · rename_i he
      simp only [Option.some.injEq, Ob.cells.injEq] at ho
      subst ho; subst he
      refine ⟨g, hg, cur, e, setRow_heap _ _ _ _ _ _ hh, hl, fun j v hj => ?_⟩
      obtain ⟨h1, c, h2, h3, h4⟩ := hr j v hj
      exact ⟨h1, c, h2, h3.mono hx.toExt, h4⟩
    · rename_i he
      obtain ⟨g', hg', hr'⟩ := h.obj o' cs' ho
      exact ⟨g', hg', hr'.mono hx.toExt (oth o' g' (by rw [hg']; rfl) he)⟩
  · simp only [upd] at ht
    split at ht
    · cases ht
    · rename_i he
      rcases h.tok t e1 ht with hc | ⟨a, n, cap, sz, xs, hm, ho⟩
      · exact .inl hc
      · exact .inr ⟨a, n, cap, sz, xs, hm, Own.block ho fun x hx' => oth t _ (by rw [hm, hx']; rfl) he⟩
  · simp only [upd]
    split
    · exact ⟨cs, rfl⟩
    · exact h.live o' g' hg'
  · have hne : t ≠ o := fun he => by rw [he, hg] at hm; cases hm
    simp only [upd, if_neg hne]
    exact h.livet t a n cap e' sz hm

def kill (m : Nat → Ent) (t : Nat) : Nat → Ent := fun j => if j = t then (match m t with | .none => .none | _ => .dead) else m j
theorem kill_ne {m : Nat → Ent} {t j : Nat} (h : j ≠ t) : kill m t j = m j := if_neg h
theorem kill_blk {m : Nat → Ent} {t j b : Nat} (h : (kill m t j).blk = some b) : j ≠ t ∧ (m j).blk = some b := by
  by_cases he : j = t
  · simp only [kill, he, if_true] at h
    cases hm : m t <;> rw [hm] at h <;> cases h
  · rw [kill_ne he] at h; exact ⟨he, h⟩

/-- A slice that may grow comes in, in place of an entry that ends there (t), or of none. -/
theorem StRel.newTok {C : Cx} {σ : St} (h : StRel C σ) (t : Nat) (w' : World) (row : Option Nat) (a : Option Addr) (n cap : Nat) (e : TypeId) (sz : Nat) (xs : List Value) (hg : C.w.grownBy w' row)
    (hobj : ∀ g, C.m t ≠ .obj g)
    (hrow : ∀ b, row = some b → ∃ x n0 c0 e0, C.m t = .tok (some x) n0 c0 e0 sz ∧ x.block = b ∧ n0 ≤ n ∧ (∀ p : Addr, p.block = b → p.off < n0 * sz → ∀ c, C.w.cell? p = some c → w'.cell? p = some c))
    (ho : Own w' 0 e sz a n cap xs) (hnew : ∀ x, a = some x → C.w.heap.size ≤ x.block ∨ row = some x.block) :
    Ext' C ⟨w', upd (kill C.m t) σ.n (.tok a n cap e sz), C.E⟩ ∧
    StRel ⟨w', upd (kill C.m t) σ.n (.tok a n cap e sz), C.E⟩ ⟨upd (upd σ.h t none) σ.n (some (.tok e)), σ.n + 1⟩ := by
  have habs := h.absent
  have hblk : ∀ o b, (upd (kill C.m t) σ.n (.tok a n cap e sz) o).blk = some b → (o = σ.n ∧ ∃ x, a = some x ∧ x.block = b) ∨ (o ≠ σ.n ∧ o ≠ t ∧ (C.m o).blk = some b) := by
    intro o b hb
    by_cases he : o = σ.n
    · simp only [upd, he, if_true] at hb
      cases a with
      | none => cases hb
      | some x => simp only [Ent.blk, Option.some.injEq] at hb; exact .inl ⟨he, x, rfl, hb⟩
    · rw [upd_ne _ _ he] at hb
      obtain ⟨h1, h2⟩ := kill_blk hb
      exact .inr ⟨he, h1, h2⟩
  have hrt : ∀ b, row = some b → (C.m t).blk = some b := fun b hb => by
    obtain ⟨x, n0, c0, e0, hm, hx, _⟩ := hrow b hb
    rw [hm, ← hx]; rfl
  have hx : Ext' C ⟨w', upd (kill C.m t) σ.n (.tok a n cap e sz), C.E⟩ := by
    refine ⟨⟨hg.os, hg.tape, hg.output, hg.size, rfl, fun b hb hn => hg.block b hb fun hr => hn t (hrt b hr.symm), fun p c hp hc => ?_, fun o ho => ?_⟩, fun b hb ⟨o, ho⟩ => ?_⟩
    · have hlt := World.block_lt_of_cell? _ _ hc
      refine ⟨Cx.S_of (C := C) rfl hp (fun o g hm => ?_) (fun u y n' cap' e' sz' hm hb => ?_), ?_⟩
      · by_cases he : o = σ.n
        · simp [upd, he] at hm
        · replace hm := (upd_ne (kill C.m t) (Ent.tok a n cap e sz) he).symm.trans hm
          by_cases he2 : o = t
          · simp only [kill, he2, if_true] at hm; cases hm' : C.m t <;> rw [hm'] at hm <;> cases hm
          · rw [kill_ne he2] at hm; exact .inl ⟨o, hm⟩
      · by_cases he : u = σ.n
        · simp only [upd, he, if_true, Ent.tok.injEq] at hm
          obtain ⟨rfl, rfl, rfl, rfl, rfl⟩ := hm
          rcases hnew y rfl with h1 | h1
          · omega
          · obtain ⟨x, n0, c0, e0, hm, hx, hle, _⟩ := hrow _ h1
            exact .inr ⟨t, x, n0, c0, e0, sz, hm, hx, Nat.mul_le_mul_right _ hle⟩
        · replace hm := (upd_ne (kill C.m t) (Ent.tok a n cap e sz) he).symm.trans hm
          by_cases he2 : u = t
          · simp only [kill, he2, if_true] at hm; cases hm' : C.m t <;> rw [hm'] at hm <;> cases hm
          · rw [kill_ne he2] at hm; exact .inr ⟨u, y, n', cap', e', sz', hm, rfl, Nat.le_refl _⟩
      · by_cases hr : row = some p.block
        · obtain ⟨x, n0, c0, e0, hm, hx, hle, hcell⟩ := hrow _ hr
          exact hcell p rfl (hp.2.2 t x n0 c0 e0 sz hm hx.symm) c hc
        · exact hg.cell hc fun h => hr h.symm
    · by_cases he : o = t
      · right
        show upd (kill C.m t) σ.n _ o = _
        rw [upd_ne _ _ (fun h' => ho (by rw [h']; exact habs))]
        simp only [kill, he, if_true]
        rw [he] at ho
        cases hm : C.m t <;> first | rfl | exact absurd hm ho
      · left
        show upd (kill C.m t) σ.n _ o = _
        rw [upd_ne _ _ (fun h' => ho (by rw [h']; exact habs)), kill_ne he]
    · rcases hblk o b ho with ⟨h1, x, h2, h3⟩ | ⟨h1, h2, h3⟩
      · rcases hnew x h2 with h4 | h4
        · omega
        · exact ⟨t, hrt b (h3 ▸ h4)⟩
      · exact ⟨o, h3⟩
  have oth : ∀ o b, (C.m o).blk = some b → o ≠ t → w'.heap[b]? = C.w.heap[b]? := fun o b hb hne =>
    hg.block b (h.lt o b hb) fun hr => hne (h.inj o t b hb (hrt b hr.symm))
  refine ⟨hx, ⟨fun p hp => h.new p (Nat.le_trans hg.size hp), fun o hm => ?_, fun o cs hc => ?_, fun u e1 hu => ?_, fun o g hm => ?_, fun u a' n' cap' e' sz' hm => ?_, fun o o' b h1 h2 => ?_, fun o b hb => ?_, fun o b hb p hp => ?_, fun g cs hgl => (h.glob g cs hgl).mono hx.toExt⟩⟩
  · show o < σ.n + 1
    by_cases he : o = σ.n
    · omega
    · have hm' : kill C.m t o ≠ .none := fun h0 => hm ((upd_ne _ _ he).trans h0)
      have : C.m o ≠ .none := by
        intro h0
        by_cases he2 : o = t
        · simp only [kill, he2, if_true] at hm'; rw [he2] at h0; rw [h0] at hm'; exact hm' rfl
        · rw [kill_ne he2] at hm'; exact hm' h0
      have := h.id o this
      omega
  · by_cases he : o = σ.n
    · simp [upd, he] at hc
    · by_cases he2 : o = t
      · subst he2; simp [upd, he] at hc
      · simp only [upd, if_neg he, if_neg he2] at hc
        obtain ⟨g, hm, hr⟩ := h.obj o cs hc
        exact ⟨g, by show upd (kill C.m t) σ.n _ o = _; rw [upd_ne _ _ he, kill_ne he2, hm], hr.mono hx.toExt (oth o g (by rw [hm]; rfl) he2)⟩
  · by_cases he : u = σ.n
    · subst he
      simp only [upd_same, Option.some.injEq, Ob.tok.injEq] at hu
      subst hu
      exact .inr ⟨a, n, cap, sz, xs, upd_same _ _ _, ho⟩
    · by_cases he2 : u = t
      · subst he2; simp [upd, he] at hu
      · simp only [upd, if_neg he, if_neg he2] at hu
        have em : upd (kill C.m t) σ.n (Ent.tok a n cap e sz) u = C.m u := by rw [upd_ne _ _ he, kill_ne he2]
        rcases h.tok u e1 hu with ⟨a', hm⟩ | ⟨a', n', cap', sz', xs', hm, ho'⟩
        · exact .inl ⟨a', em.trans hm⟩
        · exact .inr ⟨a', n', cap', sz', xs', em.trans hm, Own.block ho' fun x hx' => oth u _ (by rw [hm, hx']; rfl) he2⟩
  · by_cases he : o = σ.n
    · simp [upd, he] at hm
    · have hm' : kill C.m t o = .obj g := (upd_ne (kill C.m t) (Ent.tok a n cap e sz) he).symm.trans hm
      by_cases he2 : o = t
      · simp only [kill, he2, if_true] at hm'; cases hq : C.m t <;> rw [hq] at hm' <;> cases hm'
      · rw [kill_ne he2] at hm'
        obtain ⟨cs, hcs⟩ := h.live o g hm'
        exact ⟨cs, by simp [upd, he, he2, hcs]⟩
  · by_cases he : u = σ.n
    · subst he
      simp only [upd_same, Ent.tok.injEq] at hm
      obtain ⟨_, _, _, rfl, _⟩ := hm
      exact upd_same _ _ _
    · have hm' : kill C.m t u = .tok a' n' cap' e' sz' := (upd_ne (kill C.m t) (Ent.tok a n cap e sz) he).symm.trans hm
      by_cases he2 : u = t
      · simp only [kill, he2, if_true] at hm'; cases hq : C.m t <;> rw [hq] at hm' <;> cases hm'
      · rw [kill_ne he2] at hm'
        have := h.livet u a' n' cap' e' sz' hm'
        simp [upd, he, he2, this]
  · have hz : ∀ o b, o ≠ t → (C.m o).blk = some b → ∀ x, a = some x → x.block = b → False := by
      intro o b hne hb x hx' hxb
      rcases hnew x hx' with h4 | h4
      · have := h.lt o b hb; omega
      · exact hne (h.inj o t b hb (hrt b (hxb ▸ h4)))
    rcases hblk o b h1 with ⟨e1, x1, a1, b1⟩ | ⟨n1, t1, b1⟩ <;> rcases hblk o' b h2 with ⟨e2, x2, a2, b2⟩ | ⟨n2, t2, b2⟩
    · rw [e1, e2]
    · exact (hz o' b t2 b2 x1 a1 b1).elim
    · exact (hz o b t1 b1 x2 a2 b2).elim
    · exact h.inj o o' b b1 b2
  · rcases hblk o b hb with ⟨e1, x1, a1, b1⟩ | ⟨n1, t1, b1⟩
    · have := (World.ownsRow.lt ho) b (by rw [a1]; simp [Value.ownBlock, b1])
      exact this.2
    · exact Nat.lt_of_lt_of_le (h.lt o b b1) hg.size
  · rcases hblk o b hb with ⟨e1, x1, a1, b1⟩ | ⟨n1, t1, b1⟩
    · rcases hnew x1 a1 with h4 | h4
      · exact h.new p (by omega)
      · exact h.own t b (hrt b (b1 ▸ h4)) p hp
    · exact h.own o b b1 p hp

/-- A slice without room comes in. -/
theorem StRel.newClip {C : Cx} {σ : St} (h : StRel C σ) (a : Option Addr) (e : TypeId) :
    Ext' C ⟨C.w, upd C.m σ.n (.clip a 0), C.E⟩ ∧ StRel ⟨C.w, upd C.m σ.n (.clip a 0), C.E⟩ ⟨upd σ.h σ.n (some (.tok e)), σ.n + 1⟩ := by
  have habs := h.absent
  have e1 : ∀ o b, (upd C.m σ.n (.clip a 0) o).blk = some b → o ≠ σ.n ∧ (C.m o).blk = some b := fun o b hb => by
    by_cases he : o = σ.n
    · simp [upd, he, Ent.blk] at hb
    · rw [upd_ne _ _ he] at hb; exact ⟨he, hb⟩
  have e2 : ∀ o, C.m o ≠ .none → o ≠ σ.n := fun o ho he => ho (he ▸ habs)
  have hx : Ext' C ⟨C.w, upd C.m σ.n (.clip a 0), C.E⟩ := by
    refine ⟨⟨rfl, rfl, rfl, Nat.le_refl _, rfl, fun _ _ _ => rfl, fun p c hp hc => ⟨Cx.S_of (C := C) rfl hp (fun o g hm => .inl ⟨o, ?_⟩) (fun u y n' cap' e' sz' hm hb => .inr ⟨u, y, n', cap', e', sz', ?_, rfl, Nat.le_refl _⟩), hc⟩, fun o ho => .inl (upd_ne _ _ (e2 o ho))⟩, fun b hb ⟨o, ho⟩ => ⟨o, (e1 o b ho).2⟩⟩
    · by_cases he : o = σ.n
      · simp [upd, he] at hm
      · exact (upd_ne C.m (Ent.clip a 0) he).symm.trans hm
    · by_cases he : u = σ.n
      · simp [upd, he] at hm
      · exact (upd_ne C.m (Ent.clip a 0) he).symm.trans hm
  refine ⟨hx, ⟨h.new, fun o hm => ?_, fun o cs hc => ?_, fun u e1 hu => ?_, fun o g hm => ?_, fun u a' n' cap' e' sz' hm => ?_, fun o o' b h1 h2 => h.inj o o' b (e1 o b h1).2 (e1 o' b h2).2, fun o b hb => h.lt o b (e1 o b hb).2, fun o b hb => h.own o b (e1 o b hb).2, fun g cs hgl => (h.glob g cs hgl).mono hx.toExt⟩⟩
  · show o < σ.n + 1
    by_cases he : o = σ.n
    · omega
    · have := h.id o (fun h0 => hm ((upd_ne _ _ he).trans h0)); omega
  · by_cases he : o = σ.n
    · simp [upd, he] at hc
    · simp only [upd, if_neg he] at hc
      obtain ⟨g, hm, hr⟩ := h.obj o cs hc
      exact ⟨g, (upd_ne _ _ he).trans hm, hr.mono hx.toExt rfl⟩
  · by_cases he : u = σ.n
    · subst he; exact .inl ⟨a, upd_same _ _ _⟩
    · simp only [upd, if_neg he] at hu
      rcases h.tok u e1 hu with ⟨a', hm⟩ | ⟨a', n', cap', sz', xs', hm, ho'⟩
      · exact .inl ⟨a', (upd_ne _ _ he).trans hm⟩
      · exact .inr ⟨a', n', cap', sz', xs', (upd_ne _ _ he).trans hm, ho'⟩
  · by_cases he : o = σ.n
    · simp [upd, he] at hm
    · obtain ⟨cs, hcs⟩ := h.live o g ((upd_ne C.m (Ent.clip a 0) he).symm.trans hm)
      exact ⟨cs, by simp [upd, he, hcs]⟩
  · by_cases he : u = σ.n
    · simp [upd, he] at hm
    · have := h.livet u a' n' cap' e' sz' ((upd_ne C.m (Ent.clip a 0) he).symm.trans hm)
      simp [upd, he, this]

/-- A slice that may grow no more. -/
theorem StRel.dropTok {C : Cx} {σ : St} (h : StRel C σ) (t : Nat) (hobj : ∀ g, C.m t ≠ .obj g) :
    Ext' C ⟨C.w, kill C.m t, C.E⟩ ∧ StRel ⟨C.w, kill C.m t, C.E⟩ ⟨upd σ.h t none, σ.n⟩ := by
  have kq : ∀ o, kill C.m t o = C.m o ∨ (o = t ∧ C.m t ≠ .none ∧ kill C.m t o = .dead) := by
    intro o
    by_cases he : o = t
    · subst he
      cases hm : C.m o <;> simp [kill, hm]
    · exact .inl (kill_ne he)
  have kl : ∀ o x, kill C.m t o = x → x ≠ .dead → x ≠ .none → o ≠ t ∧ C.m o = x := by
    intro o x hx h1 h2
    by_cases he : o = t
    · subst he
      cases hm : C.m o <;> simp [kill, hm] at hx
      · exact absurd hx.symm h2
      all_goals exact absurd hx.symm h1
    · exact ⟨he, (kill_ne he).symm.trans hx⟩
  have hx : Ext' C ⟨C.w, kill C.m t, C.E⟩ := by
    refine ⟨⟨rfl, rfl, rfl, Nat.le_refl _, rfl, fun _ _ _ => rfl, fun p c hp hc => ⟨Cx.S_of (C := C) rfl hp (fun o g hm => .inl ⟨o, (kl o _ hm (by simp) (by simp)).2⟩) (fun u y n' cap' e' sz' hm hb => .inr ⟨u, y, n', cap', e', sz', (kl u _ hm (by simp) (by simp)).2, rfl, Nat.le_refl _⟩), hc⟩, fun o ho => ?_⟩, fun b hb ⟨o, ho⟩ => ⟨o, (kill_blk ho).2⟩⟩
    rcases kq o with h1 | ⟨_, _, h1⟩
    · exact .inl h1
    · exact .inr h1
  refine ⟨hx, ⟨h.new, fun o hm => ?_, fun o cs hc => ?_, fun u e1 hu => ?_, fun o g hm => ?_, fun u a' n' cap' e' sz' hm => ?_, fun o o' b h1 h2 => h.inj o o' b (kill_blk h1).2 (kill_blk h2).2, fun o b hb => h.lt o b (kill_blk hb).2, fun o b hb => h.own o b (kill_blk hb).2, fun g cs hgl => (h.glob g cs hgl).mono hx.toExt⟩⟩
  · rcases kq o with h1 | ⟨h1, h2, _⟩
    · exact h.id o (fun h0 => hm (h1.trans h0))
    · exact h.id o (by rw [h1]; exact h2)
  · by_cases he : o = t
    · simp [upd, he] at hc
    · simp only [upd, if_neg he] at hc
      obtain ⟨g, hm, hr⟩ := h.obj o cs hc
      exact ⟨g, (kill_ne he).trans hm, hr.mono hx.toExt rfl⟩
  · by_cases he : u = t
    · simp [upd, he] at hu
    · simp only [upd, if_neg he] at hu
      rcases h.tok u e1 hu with ⟨a', hm⟩ | ⟨a', n', cap', sz', xs', hm, ho'⟩
      · exact .inl ⟨a', (kill_ne he).trans hm⟩
      · exact .inr ⟨a', n', cap', sz', xs', (kill_ne he).trans hm, ho'⟩
  · obtain ⟨h1, h2⟩ := kl o _ hm (by simp) (by simp)
    obtain ⟨cs, hcs⟩ := h.live o g h2
    exact ⟨cs, by simp [upd, h1, hcs]⟩
  · obtain ⟨h1, h2⟩ := kl u _ hm (by simp) (by simp)
    have := h.livet u a' n' cap' e' sz' h2
    simp [upd, h1, this]
end Go.Vx
