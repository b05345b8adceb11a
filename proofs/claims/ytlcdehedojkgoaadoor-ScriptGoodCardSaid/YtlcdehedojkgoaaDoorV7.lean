/- What each operation does to values without memory, more: literals of slices; objects; slices that grow. -/
import Derived.Test.YtlcdehedojkgoaaDoorV6
import Derived.Laws.CopyRow
import Derived.ArgAppend
namespace Go.Vx
open Go.RowKit Go.Fl
set_option linter.unusedVariables false
set_option linter.unusedSimpArgs false

theorem StRel.fresh {C : Cx} {σ : St} (h : StRel C σ) {p : Addr} (hp : C.w.heap.size ≤ p.block) : C.S p := by
  refine ⟨h.new p hp, fun o g hg he => ?_, fun t x n cap e sz ht he => ?_⟩
  · have := h.lt o g (by rw [hg]; rfl); omega
  · have := h.lt t x.block (by rw [ht]; rfl); omega

theorem PRel.vcells {w : World} {S : Addr → Prop} {v : V} {c : Value} (h : PRel w S v c) (hv : v.isVal = true) :
    c.cells.size = v.cells.length ∧ v.cells.all V.one = true ∧ ∀ (j : Nat) u d, v.cells[j]? = some u → c.cells[j]? = some d → PRel w S u d ∧ d.oneCell' = true := by
  have single : v.cells = [v] → c.cells = #[c] → v.one = true → c.cells.size = v.cells.length ∧ v.cells.all V.one = true ∧ ∀ (j : Nat) u d, v.cells[j]? = some u → c.cells[j]? = some d → PRel w S u d ∧ d.oneCell' = true := by
    intro h1 h2 h3
    rw [h1, h2]
    refine ⟨rfl, by simp [h3], fun j u d hu hd => ?_⟩
    cases j with
    | zero => simp at hu hd; subst hu; subst hd; exact ⟨h, h.oneCell h3⟩
    | succ j => simp at hu
  cases h with
  | agg cs ds h1 hl hr =>
    refine ⟨hl, h1, fun j u d hu hd => ?_⟩
    have := hr j u d hu hd
    exact ⟨this, this.oneCell (List.all_eq_true.1 h1 u (List.mem_of_getElem? hu))⟩
  | tup => simp [V.isVal] at hv
  | _ => exact single rfl rfl rfl

/-- Elements, and the cells in which they lie. -/
structure Flat (w : World) (S : Addr → Prop) (sz : Nat) (es : List V) (ds : List Value) : Prop where
  len : ds.length = es.length * sz
  cl : ∀ (j : Nat) v, es[j]? = some v → v.cells.length = sz
  rel : ∀ (j : Nat) v (k : Nat) u, es[j]? = some v → v.cells[k]? = some u → u.one = true ∧ ∃ d, ds[j * sz + k]? = some d ∧ PRel w S u d
  one : ∀ d ∈ ds, d.oneCell' = true

theorem lt_flat {j k n sz : Nat} (hj : j < n) (hk : k < sz) : j * sz + k < n * sz :=
  Nat.lt_of_lt_of_le (Nat.add_lt_add_left hk _) (by rw [← Nat.succ_mul]; exact Nat.mul_le_mul_right _ hj)

theorem Flat.append {w : World} {S : Addr → Prop} {sz : Nat} {es fs : List V} {ds gs : List Value} (h : Flat w S sz es ds) (k : Flat w S sz fs gs) : Flat w S sz (es ++ fs) (ds ++ gs) := by
  refine ⟨by simp [h.len, k.len, Nat.add_mul], fun j v hj => ?_, fun j v q u hj hq => ?_, fun d hd => ?_⟩
  · rw [List.getElem?_append] at hj
    split at hj
    · exact h.cl j v hj
    · exact k.cl _ v hj
  · rw [List.getElem?_append] at hj
    split at hj
    · rename_i hlt
      obtain ⟨h1, d, h2, h3⟩ := h.rel j v q u hj hq
      refine ⟨h1, d, ?_, h3⟩
      rw [List.getElem?_append_left (List.getElem?_eq_some_iff.1 h2).1]; exact h2
    · rename_i hge
      obtain ⟨h1, d, h2, h3⟩ := k.rel _ v q u hj hq
      refine ⟨h1, d, ?_, h3⟩
      have hle : es.length * sz ≤ j * sz := Nat.mul_le_mul_right _ (by omega)
      rw [List.getElem?_append_right (by rw [h.len]; omega), h.len, ← h2, Nat.sub_mul]
      congr 1; omega
  · rcases List.mem_append.1 hd with hd | hd
    · exact h.one d hd
    · exact k.one d hd

theorem Flat.of_rd {w : World} {S : Addr → Prop} {sz : Nat} {es : List V} {g : Gr} {c : Value} (h : PRel w S (.sl sz es g) c) : ∃ a cap xs, c = .slice a es.length cap ∧ Rd w sz a es.length cap xs ∧ Flat w S sz es xs ∧ (g = .clip → cap = es.length) := by
  obtain ⟨a, cap, xs, hc, hr, h1, hx, hsz, hg⟩ := h.rd
  exact ⟨a, cap, xs, hc, hr, ⟨hr.len, hsz, fun j v k u hj hk => let ⟨a1, d, a2, a3, _⟩ := hx j v k u hj hk; ⟨a1, d, a2, a3⟩, h1⟩, hg⟩

theorem Flat.mono {w w' : World} {S S' : Addr → Prop} {sz : Nat} {es : List V} {ds : List Value} (h : Flat w S sz es ds) (hs : ∀ p x, S p → w.cell? p = some x → S' p ∧ w'.cell? p = some x) : Flat w' S' sz es ds :=
  ⟨h.len, h.cl, fun j v k u hj hk => let ⟨a1, d, a2, a3⟩ := h.rel j v k u hj hk; ⟨a1, d, a2, a3.mono hs⟩, h.one⟩

theorem Flat.prel {w : World} {S : Addr → Prop} {sz : Nat} {es : List V} {ds : List Value} (h : Flat w S sz es ds) {a : Option Addr} {cap : Nat} {g : Gr} (hr : Rd w sz a es.length cap ds) (hg : g = .no ∨ (g = .clip ∧ cap = es.length))
    (hS : ∀ x (q : Nat), a = some x → q < es.length * sz → S (x.add q)) : PRel w S (.sl sz es g) (.slice a es.length cap) :=
  PRel.of_rd hr hg h.cl h.rel hS

theorem Flat.set {w : World} {S : Addr → Prop} {sz : Nat} {es : List V} {ds : Array Value} (h : Flat w S sz es ds.toList) (i : Nat) (hi : i < es.length) (v : V) (c : Value) (hv : PRel w S v c) (h1 : v.isVal = true) (hl : v.cells.length = sz) :
    Flat w S sz (es.set i v) (c.cells.zipIdx.foldl (fun (cs : Array Value) (p : Value × Nat) => cs.setIfInBounds (i * sz + p.2) p.1) ds).toList := by
  obtain ⟨k1, k2, k3⟩ := hv.vcells h1
  obtain ⟨f1, f2⟩ := fold_set c.cells.toList 0 (i * sz) ds
  have hfe : (c.cells.zipIdx.foldl (fun (cs : Array Value) (p : Value × Nat) => cs.setIfInBounds (i * sz + p.2) p.1) ds) = ((c.cells.toList.zipIdx 0).foldl (fun (cs : Array Value) (p : Value × Nat) => cs.setIfInBounds (i * sz + p.2) p.1) ds) := by
    rw [← Array.foldl_toList, Array.toList_zipIdx]
  rw [hfe]
  simp only [Nat.add_zero, Array.length_toList] at f2
  have hlen := h.len
  simp only [Array.length_toList] at hlen
  have hcs : c.cells.size = sz := by rw [k1, hl]
  have hle : i * sz + sz ≤ ds.size := by rw [hlen, ← Nat.succ_mul]; exact Nat.mul_le_mul_right _ hi
  refine ⟨by simp only [Array.length_toList, f1, List.length_set]; exact hlen, fun j u hj => ?_, fun j u q x hj hq => ?_, fun d hd => ?_⟩
  · rw [List.getElem?_set] at hj
    split at hj
    · simp only [if_pos hi, Option.some.injEq] at hj; subst hj; exact hl
    · exact h.cl j u hj
  · rw [List.getElem?_set] at hj
    split at hj
    · rename_i hij
      subst hij
      simp only [if_pos hi, Option.some.injEq] at hj; subst hj
      have hq1 : q < sz := by have := (List.getElem?_eq_some_iff.1 hq).1; omega
      have hd : c.cells[q]? = some c.cells[q] := Array.getElem?_eq_getElem (by omega)
      refine ⟨List.all_eq_true.1 k2 x (List.mem_of_getElem? hq), c.cells[q], ?_, (k3 q x _ hq hd).1⟩
      rw [Array.getElem?_toList, f2, if_pos ⟨by omega, by omega, by omega⟩]
      simp
    · rename_i hij
      obtain ⟨a1, d, a2, a3⟩ := h.rel j u q x hj hq
      refine ⟨a1, d, ?_, a3⟩
      have hq1 : q < sz := by have := (List.getElem?_eq_some_iff.1 hq).1; rw [h.cl j u hj] at this; exact this
      have hno : ¬ (i * sz ≤ j * sz + q ∧ j * sz + q < i * sz + c.cells.size ∧ j * sz + q < ds.size) := by
        rintro ⟨b1, b2, _⟩
        rcases Nat.lt_or_gt_of_ne hij with hlt | hlt
        · have := Nat.mul_le_mul_right sz (show i + 1 ≤ j from hlt)
          rw [Nat.add_mul, Nat.one_mul] at this
          omega
        · have := Nat.mul_le_mul_right sz (show j + 1 ≤ i from hlt)
          rw [Nat.add_mul, Nat.one_mul] at this
          omega
      rw [Array.getElem?_toList, f2, if_neg hno]
      simpa using a2
  · obtain ⟨q, hq⟩ := List.mem_iff_getElem?.1 hd
    rw [Array.getElem?_toList, f2] at hq
    split at hq
    · have hj : q - i * sz < c.cells.size := by
        have := (List.getElem?_eq_some_iff.1 hq).1; simpa using this
      have hu : v.cells[q - i * sz]? = some (v.cells[q - i * sz]'(by omega)) := List.getElem?_eq_getElem (by omega)
      exact (k3 _ _ d hu (by simpa using hq)).2
    · exact h.one d (List.mem_of_getElem? (by simpa using hq))

theorem vlits_ok {C : Cx} {D : TyD} : ∀ {parts : List (Nat × V)} {cparts : List (Nat × Value)} {es es' : List V} {ds : Array Value}, parts.length = cparts.length →
    (∀ (j : Nat) p q, parts[j]? = some p → cparts[j]? = some q → p.1 = q.1 ∧ VRel C p.2 q.2) → Flat C.w C.S D.sz es ds.toList → vlits D es parts = some es' →
    ∃ ds', Instr.fill (fun i => some (i * D.sz, D.sz)) ds cparts = some ds' ∧ es'.length = es.length ∧ Flat C.w C.S D.sz es' ds'.toList
  | [], [], es, es', ds, _, _, hf, h => by
    simp only [vlits, Option.some.injEq] at h
    subst h
    exact ⟨ds, rfl, rfl, hf⟩
  | (i, v) :: parts, (i', c) :: cparts, es, es', ds, hn, hp, hf, h => by
    simp only [vlits] at h
    split at h <;> first | (cases h; done) | skip
    rename_i u hu
    split at h <;> first | (cases h; done) | skip
    rename_i hc
    obtain ⟨c1, c2, c3⟩ := hc
    obtain ⟨hi0, hv⟩ := hp 0 (i, v) (i', c) rfl rfl
    dsimp only at hi0 hv
    subst hi0
    have hP := strip0_ok hv hu
    obtain ⟨k1, k2, k3⟩ := hP.vcells c3
    have hF := hf.set i c2 u c hP c3 c1
    obtain ⟨ds', g1, g2, g3⟩ := vlits_ok (parts := parts) (cparts := cparts) (by simpa using hn) (fun j p q hpj hqj => hp (j + 1) p q (by simpa using hpj) (by simpa using hqj)) hF h
    refine ⟨ds', ?_, by rw [g2]; simp, g3⟩
    have hlen := hf.len
    simp only [Array.length_toList] at hlen
    have hle : i * D.sz + D.sz ≤ ds.size := by rw [hlen, ← Nat.succ_mul]; exact Nat.mul_le_mul_right _ c2
    have hn1 : ¬ (c.cells.size ≠ D.sz ∨ i * D.sz + c.cells.size > ds.size) := by rw [k1, c1]; omega
    simp only [Instr.fill]
    rw [if_neg (by simpa using hn1)]
    exact g1

theorem cells_one {v : V} (h : v.one = true) : v.cells = [v] := by cases v <;> first | rfl | simp [V.one] at h

theorem zeroElem_cells {P : Program} {t : TypeId} {D : TyD} (hD : TyAt P t D) {ze : V} (hze : zeroElem D = some ze) : ze.cells = D.z ∧ ze.isVal = true := by
  unfold zeroElem at hze
  split at hze
  · simp only [Option.some.injEq] at hze; subst hze; exact ⟨rfl, rfl⟩
  · split at hze
    · rename_i z hz
      simp only [Option.some.injEq] at hze; subst hze
      have h1 := hD.one
      rw [hz] at h1 ⊢
      simp only [List.all_cons, List.all_nil, Bool.and_true] at h1
      exact ⟨cells_one h1, by cases z <;> first | rfl | simp [V.one] at h1⟩
    · cases hze

theorem flat_zero {P : Program} {t : TypeId} {D : TyD} (hD : TyAt P t D) {z : Value} (hz : z.cells.toList.map toV1 = D.z) {ze : V} (hze : zeroElem D = some ze) (w : World) (S : Addr → Prop) (n : Nat) :
    Flat w S D.sz (List.replicate n ze) (madeCells z.cells (n * D.sz)).toList := by
  obtain ⟨hcells, _⟩ := zeroElem_cells hD hze
  have hsz : z.cells.size = D.sz := by rw [← hD.len, ← hz]; simp
  have at' : ∀ q, q < n * D.sz → 0 < D.sz → (madeCells z.cells (n * D.sz)).toList[q]? = z.cells[q % D.sz]? := by
    intro q hq h0
    have hlt : q % D.sz < z.cells.size := by rw [hsz]; exact Nat.mod_lt _ h0
    rw [Array.getElem?_toList]
    simp only [madeCells, Array.getElem?_map, hsz]
    rw [show (Array.range (n * D.sz))[q]? = some q by simp [hq]]
    simp only [Option.map_some]
    rw [getElem!_pos z.cells _ hlt, Array.getElem?_eq_getElem hlt]
  refine ⟨by simp [size_madeCells], fun j v hj => ?_, fun j v k u hj hk => ?_, fun d hd => ?_⟩
  · obtain ⟨_, rfl⟩ := List.mem_replicate.1 (List.mem_of_getElem? hj)
    rw [hcells, hD.len]
  · have hjn : j < n := by have := (List.getElem?_eq_some_iff.1 hj).1; simpa using this
    obtain ⟨_, rfl⟩ := List.mem_replicate.1 (List.mem_of_getElem? hj)
    rw [hcells] at hk
    have hk' : k < D.sz := by have := (List.getElem?_eq_some_iff.1 hk).1; rwa [hD.len] at this
    obtain ⟨h1, c, h2, h3, _⟩ := zero_rel hD hz w S k u hk
    refine ⟨h1, c, ?_, h3⟩
    rw [at' _ (lt_flat hjn hk') (by omega), Nat.mul_comm, Nat.mul_add_mod, Nat.mod_eq_of_lt hk']
    exact h2
  · obtain ⟨q, hq⟩ := List.mem_iff_getElem?.1 hd
    have hq1 : q < n * D.sz := by have := (List.getElem?_eq_some_iff.1 hq).1; simpa [size_madeCells] using this
    have h0 : 0 < D.sz := Nat.pos_of_ne_zero fun h => by rw [h] at hq1; simp at hq1
    rw [at' q hq1 h0] at hq
    have hlt : q % D.sz < D.z.length := by rw [hD.len]; exact Nat.mod_lt _ h0
    obtain ⟨_, c, h2, _, h4⟩ := zero_rel hD hz w S _ _ (List.getElem?_eq_getElem hlt)
    rw [hq] at h2; cases h2; exact h4

/-- What an operation leaves. -/
def Out (P : Program) (C : Cx) (σ' : St) (v : V) (r : Result Next) : Prop :=
  ∃ C', Ext' C C' ∧ StRel C' σ' ∧ ∃ c, VRel C' v c ∧ (r = .ok (.value c) C'.w ∨ (r = .ok .skip C'.w ∧ c = undef))

theorem Out.same {P : Program} {C : Cx} {σ : St} {v : V} {c : Value} (hσ : StRel C σ) (h : VRel C v c) : Out P C σ v (.ok (.value c) C.w) := ⟨C, .refl _, hσ, c, h, .inl rfl⟩

theorem vblit_ok {P : Program} {C : Cx} {σ : St} (hσ : StRel C σ) {τ : TypeId → Option TyD} (hτ : TyOk P τ) {t : TypeId} {len : Nat} {parts : List (Nat × V)} {cparts : Array (Nat × Value)} {v : V} (hn : parts.length = cparts.size)
    (hp : ∀ (j : Nat) p q, parts[j]? = some p → cparts[j]? = some q → p.1 = q.1 ∧ VRel C p.2 q.2) (h : vblit τ t len parts = some v) :
    ∃ c w', (Instr.buildSlice t len cparts).run P C.w = .ok c w' ∧ Below C.w.heap.size C.w w' ∧ VRel { C with w := w' } v c := by
  have hp' : ∀ (j : Nat) p q, parts[j]? = some p → cparts.toList[j]? = some q → p.1 = q.1 ∧ VRel C p.2 q.2 := fun j p q h1 h2 => hp j p q h1 (by simpa using h2)
  unfold vblit at h
  split at h <;> first | (cases h; done) | skip
  rename_i e s b z ht
  split at h <;> first | (cases h; done) | skip
  rename_i D hD
  split at h <;> first | (cases h; done) | skip
  rename_i ze hze
  split at h <;> first | (cases h; done) | skip
  rename_i hc
  obtain ⟨c1, c2, c3⟩ := hc
  obtain ⟨es, hes, rfl⟩ := Option.map_eq_some_iff.1 h
  obtain ⟨d, hd, he⟩ := (hτ t _ ht).underlying
  obtain rfl := tdOf_sl he
  obtain ⟨zz, hzz, hzm, hzs⟩ := (hτ _ _ hD).zero C.w
  have hF0 := flat_zero (hτ _ _ hD) hzm hze C.w C.S len
  obtain ⟨ds, g1, g2, g3⟩ := vlits_ok (by simpa using hn) hp' hF0 hes
  simp only [List.length_replicate] at g2
  have hlen := g3.len
  simp only [Array.length_toList] at hlen
  have hbel : Below C.w.heap.size C.w (C.w.alloc (.cells ds e)) := (Below.refl _ _).alloc (Nat.le_refl _) _
  refine ⟨.slice (some ⟨C.w.heap.size, 0, none⟩) len len, C.w.alloc (.cells ds e), ?_, hbel, .pure _ _ ?_⟩
  · by_cases h0 : len = 0
    · subst h0
      have hm0 : madeCells zz.cells (0 * D.sz) = #[] := by simp [madeCells]
      rw [hm0] at g1
      simp [Instr.buildSlice, run_underlying hd, (hτ _ _ hD).sizeOf, newRow, Array.range_zero', g1]
    · have hsm : ¬ (16777216 < len * D.sz) := by omega
      have hd0 : ¬ D.sz = 0 := by omega
      unfold madeCells at g1
      simp [Instr.buildSlice, run_underlying hd, (hτ _ _ hD).sizeOf, hsm, hzz, newRow, g1]
      intro hz
      rcases Nat.mul_eq_zero.1 hz with h | h <;> omega
  · have hO := Own.lit (w := C.w) (B := 0) e D.sz es.length ds (Nat.zero_le _) (by rw [g2]; unfold maxLen; omega) hlen
    have hg := hσ.grow hbel
    have := (g3.mono (w' := C.w.alloc (.cells ds e)) (S' := C.S) hg.1.cell).prel (g := .clip) hO.rd (.inr ⟨rfl, rfl⟩) fun x q hx hq => by
      simp only [Option.some.injEq] at hx
      subst hx
      exact hσ.fresh (by rw [add_block]; exact Nat.le_refl _)
    rwa [g2] at this
end Go.Vx
