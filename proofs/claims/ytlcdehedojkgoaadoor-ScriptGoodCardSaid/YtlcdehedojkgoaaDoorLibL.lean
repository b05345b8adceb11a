/- Slices of structs: what they read as, element by element. -/
import Derived.Test.YtlcdehedojkgoaaDoorLib
namespace Go.Fl
open Go.RowKit
section
variable {α : Type}

/-- Cells, element by element: each of 'size' cells, each reads as the datum at its place. -/
def Elems (E : World → List Value → α → Prop) (w : World) (size : Nat) (css : List (List Value)) (xs : List α) : Prop :=
  css.length = xs.length ∧ ∀ (i : Nat) (cs : List Value) (x : α), css[i]? = some cs → xs[i]? = some x → cs.length = size ∧ E w cs x

theorem flatten_length {size : Nat} : ∀ {css : List (List Value)}, (∀ cs ∈ css, cs.length = size) → css.flatten.length = css.length * size
  | [], _ => by simp
  | c :: r, h => by
    simp only [List.flatten_cons, List.length_append, List.length_cons]
    rw [flatten_length fun cs hc => h cs (by simp [hc]), h c (by simp), Nat.add_mul]
    omega

theorem flatten_get {size : Nat} : ∀ {css : List (List Value)} (i j : Nat) (cs : List Value), (∀ cs ∈ css, cs.length = size) → css[i]? = some cs → j < size → css.flatten[i * size + j]? = cs[j]?
  | [], _, _, _, _, h, _ => by simp at h
  | c :: r, 0, j, cs, hl, h, hj => by
    simp only [List.getElem?_cons_zero, Option.some.injEq] at h
    subst h
    have := hl c (by simp)
    simp only [List.flatten_cons, Nat.zero_mul, Nat.zero_add]
    rw [List.getElem?_append_left (by omega)]
  | c :: r, i + 1, j, cs, hl, h, hj => by
    have h0 := hl c (by simp)
    simp only [List.getElem?_cons_succ] at h
    simp only [List.flatten_cons]
    rw [List.getElem?_append_right (by rw [h0, Nat.add_mul]; omega), h0, show (i + 1) * size + j - size = i * size + j by rw [Nat.add_mul]; omega]
    exact flatten_get i j cs (fun x hx => hl x (by simp [hx])) h hj

theorem Elems.all {E : World → List Value → α → Prop} {w : World} {size : Nat} {css : List (List Value)} {xs : List α} (h : Elems E w size css xs) : ∀ cs ∈ css, cs.length = size := by
  intro cs hc
  obtain ⟨i, hi⟩ := List.mem_iff_getElem?.1 hc
  have hlt : i < css.length := by
    rcases Nat.lt_or_ge i css.length with h | h
    · exact h
    · simp [List.getElem?_eq_none h] at hi
  exact (h.2 i cs _ hi (List.getElem?_eq_getElem (by rw [← h.1]; exact hlt))).1

theorem Elems.nil (E : World → List Value → α → Prop) (w : World) (size : Nat) : Elems E w size [] ([] : List α) := ⟨rfl, fun i cs x h => by simp at h⟩

theorem Elems.snoc {E : World → List Value → α → Prop} {w : World} {size : Nat} {css : List (List Value)} {xs : List α} (h : Elems E w size css xs) {cs : List Value} {x : α} (hl : cs.length = size) (he : E w cs x) : Elems E w size (css ++ [cs]) (xs ++ [x]) := by
  refine ⟨by simp [h.1], fun i c y hc hy => ?_⟩
  rcases Nat.lt_or_ge i css.length with hi | hi
  · rw [List.getElem?_append_left hi] at hc
    rw [List.getElem?_append_left (by rw [← h.1]; exact hi)] at hy
    exact h.2 i c y hc hy
  · rw [List.getElem?_append_right hi] at hc
    rw [List.getElem?_append_right (by rw [← h.1]; exact hi)] at hy
    rw [h.1] at hc
    cases hk : i - xs.length with
    | zero =>
      rw [hk] at hc hy
      simp only [List.getElem?_cons_zero, Option.some.injEq] at hc hy
      subst hc; subst hy
      exact ⟨hl, he⟩
    | succ k => rw [hk] at hc; simp at hc

theorem Elems.mono {E : World → List Value → α → Prop} {w w' : World} {size : Nat} {css : List (List Value)} {xs : List α} (h : Elems E w size css xs) (hE : ∀ cs x, E w cs x → E w' cs x) : Elems E w' size css xs :=
  ⟨h.1, fun i cs x hc hx => ⟨(h.2 i cs x hc hx).1, hE _ _ (h.2 i cs x hc hx).2⟩⟩

theorem Elems.drop {E : World → List Value → α → Prop} {w : World} {size : Nat} {css : List (List Value)} {xs : List α} (h : Elems E w size css xs) (k : Nat) : Elems E w size (css.drop k) (xs.drop k) :=
  ⟨by simp [h.1], fun i cs x hc hx => h.2 (k + i) cs x (by rw [List.getElem?_drop] at hc; exact hc) (by rw [List.getElem?_drop] at hx; exact hx)⟩

theorem Elems.take {E : World → List Value → α → Prop} {w : World} {size : Nat} {css : List (List Value)} {xs : List α} (h : Elems E w size css xs) (k : Nat) : Elems E w size (css.take k) (xs.take k) := by
  refine ⟨by simp [h.1], fun i cs x hc hx => ?_⟩
  rw [List.getElem?_take] at hc hx
  split at hc
  · rename_i hlt; rw [if_pos hlt] at hx; exact h.2 i cs x hc hx
  · cases hc

/-- The slice reads as the list. -/
def RdL (E : World → List Value → α → Prop) (w : World) (size : Nat) (a : Option Addr) (n cap : Nat) (xs : List α) : Prop :=
  ∃ css, Rd w size a n cap css.flatten ∧ Elems E w size css xs

theorem RdL.len {E : World → List Value → α → Prop} {w : World} {size : Nat} {a : Option Addr} {n cap : Nat} {xs : List α} (h : RdL E w size a n cap xs) (hs : 0 < size) : xs.length = n := by
  obtain ⟨css, hr, he⟩ := h
  have := hr.len
  rw [flatten_length he.all, he.1] at this
  exact Nat.eq_of_mul_eq_mul_right hs this

theorem RdL.nil (E : World → List Value → α → Prop) (w : World) (size : Nat) : RdL E w size none 0 0 ([] : List α) := ⟨[], Rd.nil _ _, Elems.nil _ _ _⟩

theorem RdL.mono {E : World → List Value → α → Prop} {w w' : World} {size : Nat} {a : Option Addr} {n cap : Nat} {xs : List α} (h : RdL E w size a n cap xs) (hE : ∀ cs x, E w cs x → E w' cs x) (hb : Below w.heap.size w w') : RdL E w' size a n cap xs := by
  obtain ⟨css, hr, he⟩ := h
  exact ⟨css, hr.mono hb, he.mono hE⟩

/-- The element at a place: its cells, where they lie. -/
theorem RdL.elem {E : World → List Value → α → Prop} {w : World} {size : Nat} {a : Option Addr} {n cap : Nat} {xs : List α} (h : RdL E w size a n cap xs) (hs : 0 < size) (i : Nat) (hi : i < xs.length) :
    ∃ b off cs, a = some ⟨b, off, none⟩ ∧ cs.length = size ∧ E w cs xs[i] ∧ ∀ j u, cs[j]? = some u → w.cell? ⟨b, off + i * size + j, none⟩ = some u := by
  have hn := h.len hs
  obtain ⟨css, hr, he⟩ := h
  obtain ⟨b, off, rfl, hc⟩ := hr.addr (by omega) hs
  have hci : i < css.length := by rw [he.1]; exact hi
  have h1 := he.2 i css[i] xs[i] (List.getElem?_eq_getElem hci) (List.getElem?_eq_getElem hi)
  refine ⟨b, off, css[i], rfl, h1.1, h1.2, fun j u hu => ?_⟩
  have hj : j < size := by
    rcases Nat.lt_or_ge j size with h | h
    · exact h
    · rw [List.getElem?_eq_none (by omega)] at hu; cases hu
  have := hc (i * size + j) u (by rw [flatten_get i j css[i] he.all (List.getElem?_eq_getElem hci) hj]; exact hu)
  rw [← Nat.add_assoc] at this
  exact this

/-- The call's own row of such elements. -/
def OwnL (E : World → List Value → α → Prop) (w : World) (B e size : Nat) (a : Option Addr) (n cap : Nat) (xs : List α) : Prop :=
  ∃ css, Own w B e size a n cap css.flatten ∧ Elems E w size css xs
theorem OwnL.nil (E : World → List Value → α → Prop) (w : World) (B e size : Nat) : OwnL E w B e size none 0 0 ([] : List α) := ⟨[], Own.nil _ _ _ _, Elems.nil _ _ _⟩
theorem OwnL.rd {E : World → List Value → α → Prop} {w : World} {B e size : Nat} {a : Option Addr} {n cap : Nat} {xs : List α} (h : OwnL E w B e size a n cap xs) : RdL E w size a n cap xs := by
  obtain ⟨css, ho, he⟩ := h
  exact ⟨css, ho.rd, he⟩
end

/-- A boxed struct of two cells, later on. -/
theorem box2 {w W : World} {u v : Value} {T : TypeId} (h : Below (w.alloc (.cells #[u, v] T)).heap.size (w.alloc (.cells #[u, v] T)) W) :
    W.cell? ⟨w.heap.size, 0, none⟩ = some u ∧ W.cell? ⟨w.heap.size, 1, none⟩ = some v ∧ w.heap.size < W.heap.size ∧ W.frozen? ⟨w.heap.size, 0, none⟩ = false ∧ W.frozen? ⟨w.heap.size, 1, none⟩ = false := by
  have h0 : (w.alloc (.cells #[u, v] T)).cell? ⟨w.heap.size, 0, none⟩ = some u := by rw [World.cell?_alloc_at _ _ _ _ rfl]; rfl
  have h1 : (w.alloc (.cells #[u, v] T)).cell? ⟨w.heap.size, 1, none⟩ = some v := by rw [World.cell?_alloc_at _ _ _ _ rfl]; rfl
  exact ⟨(h.cell (p := ⟨w.heap.size, 0, none⟩) (by simp)).trans h0, (h.cell (p := ⟨w.heap.size, 1, none⟩) (by simp)).trans h1, by have := h.size; simp at this; omega,
    (h.frozen (p := ⟨w.heap.size, 0, none⟩) (by simp)).trans (World.frozen?_alloc_at _ _ _ _ rfl), (h.frozen (p := ⟨w.heap.size, 1, none⟩) (by simp)).trans (World.frozen?_alloc_at _ _ _ _ rfl)⟩

theorem box1 {w W : World} {u : Value} {T : TypeId} (h : Below (w.alloc (.cells #[u] T)).heap.size (w.alloc (.cells #[u] T)) W) :
    W.cell? ⟨w.heap.size, 0, none⟩ = some u ∧ w.heap.size < W.heap.size ∧ W.frozen? ⟨w.heap.size, 0, none⟩ = false := by
  have h0 : (w.alloc (.cells #[u] T)).cell? ⟨w.heap.size, 0, none⟩ = some u := by rw [World.cell?_alloc_at _ _ _ _ rfl]; rfl
  exact ⟨(h.cell (p := ⟨w.heap.size, 0, none⟩) (by simp)).trans h0, by have := h.size; simp at this; omega,
    (h.frozen (p := ⟨w.heap.size, 0, none⟩) (by simp)).trans (World.frozen?_alloc_at _ _ _ _ rfl)⟩

/-- One's own row lies at or behind the block from which it is one's own. -/
theorem Own.ge {w : World} {B e size n cap : Nat} {a : Option Addr} {xs : List Value} (h : Own w B e size a n cap xs) (x : Addr) (hx : a = some x) : B ≤ x.block := by
  obtain ⟨_, h⟩ := h
  rcases h with ⟨hv, _⟩ | ⟨g, c, cur, hv, hg, _⟩
  · simp only [Value.slice.injEq] at hv
    rw [hv.1] at hx; cases hx
  · simp only [Value.slice.injEq] at hv
    rw [hv.1] at hx; cases hx; exact hg
end Go.Fl
