/- From the words of the walk with memory to values without it. -/
import Derived.Test.YtlcdehedojkgoaaDoorV17
import Derived.Test.YtlcdehedojkgoaaDoorLibL
namespace Go.Vx
open Go.RowKit Go.Fl
set_option linter.unusedVariables false
set_option linter.unusedSimpArgs false

theorem bv_drop (l : List UInt8) (k : Nat) : (bv l).drop k = bv (l.drop k) := by simp [bv, List.map_drop]
theorem bv_take (l : List UInt8) (k : Nat) : (bv l).take k = bv (l.take k) := by simp [bv, List.map_take]
theorem bv_append (a b : List UInt8) : bv a ++ bv b = bv (a ++ b) := by simp [bv]

theorem bc_of_flat {w : World} {S : Addr → Prop} {l : List UInt8} {xs : List Value} (h : Flat w S 1 (bv l) xs) : xs = bc l := by
  have hl : xs.length = l.length := by have := h.len; simpa using this
  apply List.ext_getElem
  · simp [hl]
  · intro j h1 h2
    have hj : j < l.length := by omega
    obtain ⟨_, d, hd, hr⟩ := h.rel j (.i .u8 (l[j].toNat : Int)) 0 (.i .u8 (l[j].toNat : Int)) (by simp [bv, hj]) rfl
    have e : xs[j]? = some d := by simpa using hd
    rw [List.getElem?_eq_getElem h1, Option.some.injEq] at e
    rw [e]
    cases hr
    simp [bc, hj]

/-- Bytes that lie where they stay. -/
theorem bytes_of_prel {w : World} {S : Addr → Prop} {l : List UInt8} {g : Gr} {c : Value} (h : PRel w S (.sl 1 (bv l) g) c) : ∃ a cap, c = .slice a l.length cap ∧ Rd w 1 a l.length cap (bc l) := by
  obtain ⟨a, cap, xs, hc, hr, hF, _⟩ := Flat.of_rd h
  have := bc_of_flat hF
  subst this
  simp only [bv_length] at hc hr
  exact ⟨a, cap, hc, hr⟩

theorem own_ret {w w' : World} {S : Addr → Prop} (hS : ∀ p : Addr, w.heap.size ≤ p.block → S p) {e n cap : Nat} {a : Option Addr} {l : List UInt8} (h : Fl.Own w' w.heap.size e 1 a n cap (bc l)) : RetRel w w' S (.sl 1 (bv l) (.own e)) (.slice a n cap) := by
  have hr := h.rd
  have hn : l.length = n := by have := hr.len; simpa using this
  subst hn
  have hlt : ∀ x, a = some x → w.heap.size ≤ x.block ∧ x = ⟨x.block, 0, none⟩ := fun x hx => by
    subst hx
    obtain ⟨hl, h | ⟨g, c, cur, hv, hg, _⟩⟩ := h
    · simp at h
    · simp only [Value.slice.injEq, Option.some.injEq] at hv
      rw [hv.1]; exact ⟨hg, rfl⟩
  refine .inr ⟨a, cap, bc l, by simp, by simpa using h, ?_⟩
  have := (flat_bv w' (fun p => S p ∧ ∀ x, a = some x → p.block = x.block → p.off < (bv l).length * 1) l).prel (a := a) (cap := cap) (g := .no) (by simpa using hr) (.inl rfl) fun x q hx hq => by
    obtain ⟨h1, h2⟩ := hlt x hx
    refine ⟨hS _ (by rw [add_block]; exact h1), fun y hy hb => ?_⟩
    rw [hx, Option.some.injEq] at hy
    subst hy
    rw [h2, addr_add]
    simpa using hq
  simpa using this

/-- Bytes that stay, the other way. -/
theorem prel_of_rd {w : World} {S : Addr → Prop} {n cap : Nat} {a : Option Addr} {l : List UInt8} (hr : Rd w 1 a n cap (bc l)) (hS : ∀ x (q : Nat), a = some x → q < n → S (x.add q)) : PRel w S (.sl 1 (bv l) .no) (.slice a n cap) := by
  have hn : l.length = n := by have := hr.len; simpa using this
  subst hn
  have := (flat_bv w S l).prel (a := a) (cap := cap) (g := .no) (by simpa using hr) (.inl rfl) fun x q hx hq => hS x q hx (by simpa using hq)
  simpa using this

theorem chunk_flat (sz : Nat) (xs : List Value) : ∀ n, ((List.range n).map fun j => (xs.drop (j * sz)).take sz).flatten = xs.take (n * sz)
  | 0 => by simp
  | n + 1 => by
    rw [List.range_succ, List.map_append, List.flatten_append, chunk_flat sz xs n, Nat.succ_mul, List.take_add]
    simp

/-- Elements that lie where they stay. -/
theorem rdl_of_prel {α : Type} {enc : α → V} {E : World → List Value → α → Prop} {sz : Nat} {w : World} {S : Addr → Prop} {L : List α} {g : Gr} {c : Value}
    (henc : ∀ x cs, (enc x).cells.length = sz → cs.length = sz → (∀ (k : Nat) u, (enc x).cells[k]? = some u → ∃ d, cs[k]? = some d ∧ PRel w S u d) → E w cs x) (h : PRel w S (.sl sz (L.map enc) g) c) :
    ∃ a cap, c = .slice a L.length cap ∧ RdL E w sz a L.length cap L := by
  obtain ⟨a, cap, xs, hc, hr, hF, _⟩ := Flat.of_rd h
  rw [List.length_map] at hc hr
  have hl : xs.length = L.length * sz := hr.len
  refine ⟨a, cap, hc, (List.range L.length).map fun j => (xs.drop (j * sz)).take sz, ?_, by simp, fun i cs x hi hx => ?_⟩
  · rw [chunk_flat, List.take_of_length_le (by omega)]
    exact hr
  · have hlt : i < L.length := (List.getElem?_eq_some_iff.1 hx).1
    simp only [List.getElem?_map, List.getElem?_range hlt, Option.map_some, Option.some.injEq] at hi
    subst hi
    have hm : (L.map enc)[i]? = some (enc x) := by rw [List.getElem?_map, hx]; rfl
    have hcl := hF.cl i _ hm
    have hle : i * sz + sz ≤ xs.length := by
      rw [hl, ← Nat.succ_mul]
      exact Nat.mul_le_mul_right _ hlt
    have hlen : ((xs.drop (i * sz)).take sz).length = sz := by
      rw [List.length_take, List.length_drop]; omega
    refine ⟨hlen, henc x _ hcl hlen fun k u hk => ?_⟩
    obtain ⟨_, d, hd, hrel⟩ := hF.rel i _ k u hm hk
    have hks : k < sz := by rw [← hcl]; exact (List.getElem?_eq_some_iff.1 hk).1
    refine ⟨d, ?_, hrel⟩
    rw [List.getElem?_take, if_pos hks, List.getElem?_drop]
    exact hd

theorem PRel.get {w : World} {S : Addr → Prop} {cs : List V} {c : Value} (h : PRel w S (.agg cs) c) : ∃ ds, c = .agg ds ∧ ds.size = cs.length ∧ ∀ (j : Nat) v c, cs[j]? = some v → ds[j]? = some c → PRel w S v c := by
  cases h with
  | agg _ ds _ hl hr => exact ⟨ds, rfl, hl, hr⟩

/-- What stays, stays in a world with new blocks. -/
theorem PRel.later {w w' : World} {S : Addr → Prop} {v : V} {c : Value} (h : PRel w S v c) (hb : Below w.heap.size w w') : PRel w' S v c :=
  h.mono fun p x hp hx => ⟨hp, (hb.cell (World.block_lt_of_cell? _ _ hx)).trans hx⟩

/-- A closure's call: what it captured, and what it is handed. -/
theorem rel_append {w : World} {S : Addr → Prop} {v : V} {c : Value} {caps : List V} {ds : Array Value} (hv : PRel w S v c) (hr : ∀ (j : Nat) v c, caps[j]? = some v → ds[j]? = some c → PRel w S v c) :
    ∀ (j : Nat) u d, ([v] ++ caps)[j]? = some u → (#[c] ++ ds)[j]? = some d → PRel w S u d := fun j u d hu hd => by
  cases j with
  | zero =>
    simp only [List.cons_append, List.getElem?_cons_zero, Option.some.injEq] at hu
    subst hu
    rw [Array.getElem?_append_left (by simp)] at hd
    simp only [List.getElem?_toArray, List.getElem?_cons_zero, Option.some.injEq] at hd
    subst hd
    exact hv
  | succ j =>
    rw [Array.getElem?_append_right (by simp)] at hd
    exact hr j u d (by simpa using hu) (by simpa using hd)

theorem PRel.get_fn {w : World} {S : Addr → Prop} {F : FuncId} {caps : List V} {c : Value} (h : PRel w S (.fn F caps) c) : ∃ ds : Array Value, c = .func (.func F) #[] ds ∧ ds.size = caps.length ∧ ∀ (j : Nat) v c, caps[j]? = some v → ds[j]? = some c → PRel w S v c := by
  generalize hv : V.fn F caps = v at h
  cases h <;> cases hv
  rename_i ds hl hr
  exact ⟨ds, rfl, hl, hr⟩
theorem VPure.call {P : Program} {f : FuncId} {args : List V} {r : V} (h : VPure P f args r) (w : World) (S : Addr → Prop) (cargs : Array Value) (hS : ∀ p : Addr, w.heap.size ≤ p.block → S p) (hG : GOk w S) (hl : args.length = cargs.size) (hr : ∀ (j : Nat) v c, args[j]? = some v → cargs[j]? = some c → PRel w S v c) :
    Calls P f cargs w fun e w' => ∃ c, e = .returned c ∧ Below w.heap.size w w' ∧ RetRel w w' S r c := h.2 w S cargs hS hG hl hr
theorem VPure.enters {P : Program} {f : FuncId} {args : List V} {r : V} (h : VPure P f args r) : Enters P f := h.1
/-- A closure that computes a number. -/
theorem VPure.int {P : Program} {f : FuncId} {caps : List V} {x : Int} {k : IntKind} {v : V} {c : Value} (h : VPure P f ([v] ++ caps) (.i k x)) {w W : World} {S : Addr → Prop} (hS : ∀ p : Addr, w.heap.size ≤ p.block → S p) (hG : GOk W S) (hb : Below w.heap.size w W) {ds : Array Value} (hdl : ds.size = caps.length) (hv : PRel W S v c) (hdr : ∀ (j : Nat) v c, caps[j]? = some v → ds[j]? = some c → PRel w S v c) :
    Calls P f (#[c] ++ ds) W fun e W' => e = .returned (.int k x) ∧ Below W.heap.size W W' := by
  refine (h.call W S (#[c] ++ ds) (fun p hp => hS p (Nat.le_trans hb.size hp)) hG (by simp [hdl]; omega) (rel_append hv fun j v c hv hc => (hdr j v c hv hc).later hb)).mono ?_
  rintro e w' ⟨c, rfl, hb', hret⟩
  have hret' : PRel w' S (.i k x) c := hret
  cases hret'
  exact ⟨rfl, hb'⟩
theorem arr1 {A : Array Value} (h : 1 = A.size) : ∃ a, A = #[a] := by
  obtain ⟨l⟩ := A
  match l, h with
  | [a], _ => exact ⟨a, rfl⟩
theorem arr2 {A : Array Value} (h : 2 = A.size) : ∃ a b, A = #[a, b] := by
  obtain ⟨l⟩ := A
  match l, h with
  | [a, b], _ => exact ⟨a, b, rfl⟩
theorem arr3 {A : Array Value} (h : 3 = A.size) : ∃ a b c, A = #[a, b, c] := by
  obtain ⟨l⟩ := A
  match l, h with
  | [a, b, c], _ => exact ⟨a, b, c, rfl⟩
theorem arr4 {A : Array Value} (h : 4 = A.size) : ∃ a b c d, A = #[a, b, c, d] := by
  obtain ⟨l⟩ := A
  match l, h with
  | [a, b, c, d], _ => exact ⟨a, b, c, d, rfl⟩

end Go.Vx
