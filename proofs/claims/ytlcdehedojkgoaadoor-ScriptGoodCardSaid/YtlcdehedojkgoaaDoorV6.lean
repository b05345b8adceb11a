/- What each operation does to values without memory, more: what is built, loaded, stored, made. -/
import Derived.Test.YtlcdehedojkgoaaDoorV5
import Derived.Laws.MakeOwn
namespace Go.Vx
open Go.RowKit Go.Fl
set_option linter.unusedVariables false

def strip1 : V → Option V
  | .b x => some (.b x)
  | .i k n => some (.i k n)
  | .s l => some (.s l)
  | .nilp => some .nilp
  | .nilif => some .nilif
  | .rp cs => some (.rp cs)
  | .sl sz es _ => some (.sl sz es .no)
  | .fn f [] => some (.fn f [])
  | .iface t (.i k n) => some (.iface t (.i k n))
  | .iface t (.s l) => some (.iface t (.s l))
  | _ => none
def stripL : List V → Option (List V)
  | [] => some []
  | v :: r => match strip1 v, stripL r with
    | some v', some r' => some (v' :: r')
    | _, _ => none
def strip0 : V → Option V
  | .agg cs => (stripL cs).map .agg
  | v => strip1 v
def stripTL : List V → Option (List V)
  | [] => some []
  | v :: r => match strip0 v, stripTL r with
    | some v', some r' => some (v' :: r')
    | _, _ => none
def strip : V → Option V
  | .tup cs => (stripTL cs).map .tup
  | v => strip0 v

section
variable {C : Cx}
theorem strip1_ok {v v' : V} {c : Value} (hx : VRel C v c) (h : strip1 v = some v') : PRel C.w C.S v' c ∧ v'.one = true := by
  unfold strip1 at h
  split at h <;> first | (cases h; done) | (simp only [Option.some.injEq] at h; subst h)
  · obtain rfl := hx.inv_b; exact ⟨.b _, rfl⟩
  · obtain rfl := hx.inv_i; exact ⟨.i _ _, rfl⟩
  · obtain rfl := hx.inv_s; exact ⟨.s _, rfl⟩
  · obtain rfl := hx.inv_nilp; exact ⟨.nilp, rfl⟩
  · cases hx with
    | pure _ _ h => exact ⟨h, rfl⟩
  · exact ⟨hx.inv_rp, rfl⟩
  · exact ⟨hx.inv_sl, rfl⟩
  · obtain ⟨ds, rfl, hl, hr⟩ := hx.inv_fn
    have : ds = #[] := by simpa using hl
    subst this
    exact ⟨.fn _ [] #[] rfl (fun j v c h => by simp at h), rfl⟩
  · refine ⟨?_, rfl⟩
    cases hx with
    | pure _ _ h => exact h
    | iface _ _ c h => obtain rfl := h.inv_i; exact .iface _ _ _ (.i _ _)
  · refine ⟨?_, rfl⟩
    cases hx with
    | pure _ _ h => exact h
    | iface _ _ c h => obtain rfl := h.inv_s; exact .iface _ _ _ (.s _)

theorem stripL_ok : ∀ {cs cs' : List V}, stripL cs = some cs' → cs'.length = cs.length ∧ ∀ (j : Nat) u, cs'[j]? = some u → ∃ v, cs[j]? = some v ∧ strip1 v = some u
  | [], cs', h => by simp [stripL] at h; subst h; exact ⟨rfl, fun j u h => by simp at h⟩
  | v :: r, cs', h => by
    simp only [stripL] at h
    split at h <;> first | (cases h; done) | (simp only [Option.some.injEq] at h; subst h)
    rename_i v' r' hv hr
    obtain ⟨hl, hg⟩ := stripL_ok hr
    refine ⟨by simp [hl], fun j u hu => ?_⟩
    cases j with
    | zero => simp only [List.getElem?_cons_zero, Option.some.injEq] at hu; subst hu; exact ⟨v, by simp, hv⟩
    | succ j => simp only [List.getElem?_cons_succ] at hu ⊢; exact hg j u hu

theorem strip0_ok {v v' : V} {c : Value} (hx : VRel C v c) (h : strip0 v = some v') : PRel C.w C.S v' c := by
  unfold strip0 at h
  split at h
  · obtain ⟨cs', h1, rfl⟩ := Option.map_eq_some_iff.1 h
    obtain ⟨ds, rfl, h1', hl, hr⟩ := hx.inv_agg
    obtain ⟨hl', hg⟩ := stripL_ok h1
    have hat : ∀ (j : Nat) u, cs'[j]? = some u → ∃ d, ds[j]? = some d ∧ PRel C.w C.S u d ∧ u.one = true := fun j u hu => by
      obtain ⟨v, hv, hs⟩ := hg j u hu
      have hj := (List.getElem?_eq_some_iff.1 hv).1
      have hd : ds[j]? = some ds[j] := Array.getElem?_eq_getElem (by omega)
      exact ⟨_, hd, strip1_ok (hr j v _ hv hd) hs⟩
    refine .agg cs' ds (List.all_eq_true.2 fun u hu => ?_) (by omega) fun j u d hu hd => ?_
    · obtain ⟨j, hj⟩ := List.mem_iff_getElem?.1 hu
      obtain ⟨d, _, _, h⟩ := hat j u hj
      exact h
    · obtain ⟨d', hd', hp, _⟩ := hat j u hu
      rw [hd] at hd'; cases hd'; exact hp
  · exact (strip1_ok hx h).1

theorem stripTL_ok : ∀ {cs cs' : List V}, stripTL cs = some cs' → cs'.length = cs.length ∧ ∀ (j : Nat) u, cs'[j]? = some u → ∃ v, cs[j]? = some v ∧ strip0 v = some u
  | [], cs', h => by simp [stripTL] at h; subst h; exact ⟨rfl, fun j u h => by simp at h⟩
  | v :: r, cs', h => by
    simp only [stripTL] at h
    split at h <;> first | (cases h; done) | (simp only [Option.some.injEq] at h; subst h)
    rename_i v' r' hv hr
    obtain ⟨hl, hg⟩ := stripTL_ok hr
    refine ⟨by simp [hl], fun j u hu => ?_⟩
    cases j with
    | zero => simp only [List.getElem?_cons_zero, Option.some.injEq] at hu; subst hu; exact ⟨v, by simp, hv⟩
    | succ j => simp only [List.getElem?_cons_succ] at hu ⊢; exact hg j u hu

theorem strip_ok {v v' : V} {c : Value} (hx : VRel C v c) (h : strip v = some v') : PRel C.w C.S v' c := by
  unfold strip at h
  split at h
  · obtain ⟨cs', h1, rfl⟩ := Option.map_eq_some_iff.1 h
    obtain ⟨ds, rfl, hl, hr⟩ := hx.inv_tup
    obtain ⟨hl', hg⟩ := stripTL_ok h1
    refine .tup cs' ds (by omega) fun j u d hu hd => ?_
    obtain ⟨v, hv, hs⟩ := hg j u hu
    exact strip0_ok (hr j v d hv hd) hs
  · exact strip0_ok hx h

/-! ### The cells of a value -/
def V.isVal : V → Bool
  | .undef => false
  | .tup _ => false
  | _ => true

theorem VRel.cells {v : V} {c : Value} (h : VRel C v c) (hv : v.isVal = true) : c.cells.size = v.cells.length ∧ v.cells.all V.one = true ∧ ∀ (j : Nat) u d, v.cells[j]? = some u → c.cells[j]? = some d → VRel C u d ∧ d.oneCell' = true := by
  have single : v.cells = [v] → c.cells = #[c] → v.one = true → c.oneCell' = true → c.cells.size = v.cells.length ∧ v.cells.all V.one = true ∧ ∀ (j : Nat) u d, v.cells[j]? = some u → c.cells[j]? = some d → VRel C u d ∧ d.oneCell' = true := by
    intro h1 h2 h3 h4
    rw [h1, h2]
    refine ⟨rfl, by simp [h3], fun j u d hu hd => ?_⟩
    cases j with
    | zero => simp at hu hd; subst hu; subst hd; exact ⟨h, h4⟩
    | succ j => simp at hu
  have ag : ∀ cs ds, v = .agg cs → c = .agg ds → c.cells.size = v.cells.length ∧ v.cells.all V.one = true ∧ ∀ (j : Nat) u d, v.cells[j]? = some u → c.cells[j]? = some d → VRel C u d ∧ d.oneCell' = true := by
    rintro cs ds rfl rfl
    obtain ⟨ds', he, h1, hl, hr⟩ := h.inv_agg
    simp only [Value.agg.injEq] at he
    subst he
    refine ⟨hl, h1, fun j u d hu hd => ⟨hr j u d hu hd, ?_⟩⟩
    have ho := List.all_eq_true.1 h1 u (List.mem_of_getElem? hu)
    have := hr j u d hu hd
    cases this with
    | pure _ _ h => exact h.oneCell ho
    | undef => simp [V.one] at ho
    | tok _ _ _ _ h => exact h.oneCell rfl
    | ptr => rfl
    | osl => rfl
    | agg => simp [V.one] at ho
    | tup => simp [V.one] at ho
    | fn => rfl
    | iface => rfl
  cases h with
  | pure _ _ h =>
    cases h with
    | agg cs ds => exact ag _ _ rfl rfl
    | tup => simp [V.isVal] at hv
    | _ => exact single rfl rfl rfl rfl
  | undef => simp [V.isVal] at hv
  | tok _ _ _ _ h => cases h; exact single rfl rfl rfl rfl
  | ptr => exact single rfl rfl rfl rfl
  | osl => exact single rfl rfl rfl rfl
  | agg cs ds => exact ag _ _ rfl rfl
  | tup => simp [V.isVal] at hv
  | fn => exact single rfl rfl rfl rfl
  | iface => exact single rfl rfl rfl rfl
end

/-! ### Literals of structs and arrays -/
def vfill (pl : Nat → Option (Nat × Nat)) : List V → List (Nat × V) → Option (List V)
  | cells, [] => some cells
  | cells, (i, v) :: rest => match pl i with
    | some (off, sz) => if v.cells.length = sz ∧ off + sz ≤ cells.length ∧ v.isVal = true then vfill pl (cells.take off ++ v.cells ++ cells.drop (off + sz)) rest else none
    | none => none

theorem fold_set : ∀ (l : List Value) (k off : Nat) (cs : Array Value), ((l.zipIdx k).foldl (fun (cs : Array Value) (p : Value × Nat) => cs.setIfInBounds (off + p.2) p.1) cs).size = cs.size ∧
    ∀ i, ((l.zipIdx k).foldl (fun (cs : Array Value) (p : Value × Nat) => cs.setIfInBounds (off + p.2) p.1) cs)[i]? = if off + k ≤ i ∧ i < off + k + l.length ∧ i < cs.size then l[i - (off + k)]? else cs[i]?
  | [], k, off, cs => ⟨rfl, fun i => by simp; omega⟩
  | v :: l, k, off, cs => by
    obtain ⟨h1, h2⟩ := fold_set l (k + 1) off (cs.setIfInBounds (off + k) v)
    simp only [List.zipIdx_cons, List.foldl_cons]
    refine ⟨by rw [h1]; simp, fun i => ?_⟩
    rw [h2]
    simp only [Array.size_setIfInBounds, Array.getElem?_setIfInBounds, List.length_cons]
    by_cases hi : i = off + k
    · subst hi
      have : ¬ (off + (k + 1) ≤ off + k) := by omega
      by_cases hs : off + k < cs.size
      · simp [this, hs]
      · simp [this, hs]
    · by_cases hr : off + (k + 1) ≤ i ∧ i < off + (k + 1) + l.length ∧ i < cs.size
      · rw [if_pos hr, if_pos ⟨by omega, by omega, hr.2.2⟩, show i - (off + k) = (i - (off + (k + 1))) + 1 by omega]
        simp
      · rw [if_neg hr, if_neg (by omega), if_neg (by omega)]

theorem vfill_ok {C : Cx} {pl : Nat → Option (Nat × Nat)} : ∀ {parts : List (Nat × V)} {cparts : List (Nat × Value)} {cells cells' : List V} {ds : Array Value}, parts.length = cparts.length →
    (∀ (j : Nat) p q, parts[j]? = some p → cparts[j]? = some q → p.1 = q.1 ∧ VRel C p.2 q.2) → ds.size = cells.length → cells.all V.one = true → (∀ (j : Nat) v d, cells[j]? = some v → ds[j]? = some d → VRel C v d ∧ d.oneCell' = true) →
    vfill pl cells parts = some cells' → ∃ ds', Instr.fill pl ds cparts = some ds' ∧ ds'.size = cells'.length ∧ cells'.length = cells.length ∧ cells'.all V.one = true ∧ ∀ (j : Nat) v d, cells'[j]? = some v → ds'[j]? = some d → VRel C v d ∧ d.oneCell' = true
  | [], [], cells, cells', ds, _, _, hl, h1, hr, h => by
    simp only [vfill, Option.some.injEq] at h
    subst h
    exact ⟨ds, rfl, hl, rfl, h1, hr⟩
  | (i, v) :: parts, (i', c) :: cparts, cells, cells', ds, hn, hp, hl, h1, hr, h => by
    simp only [vfill] at h
    split at h <;> first | (cases h; done) | skip
    rename_i off sz hpl
    split at h <;> first | (cases h; done) | skip
    rename_i hc
    obtain ⟨c1, c2, c3⟩ := hc
    obtain ⟨hi0, hv⟩ := hp 0 (i, v) (i', c) rfl rfl
    dsimp only at hi0 hv
    subst hi0
    obtain ⟨k1, k2, k3⟩ := hv.cells c3
    obtain ⟨f1, f2⟩ := fold_set c.cells.toList 0 off ds
    have hfe : (c.cells.zipIdx.foldl (fun (cs : Array Value) (p : Value × Nat) => cs.setIfInBounds (off + p.2) p.1) ds) = ((c.cells.toList.zipIdx 0).foldl (fun (cs : Array Value) (p : Value × Nat) => cs.setIfInBounds (off + p.2) p.1) ds) := by
      rw [← Array.foldl_toList, Array.toList_zipIdx]
    have hnew : ∀ (j : Nat) u d, (cells.take off ++ v.cells ++ cells.drop (off + sz))[j]? = some u → (c.cells.zipIdx.foldl (fun (cs : Array Value) (p : Value × Nat) => cs.setIfInBounds (off + p.2) p.1) ds)[j]? = some d → VRel C u d ∧ d.oneCell' = true := by
      intro j u d hu hd
      rw [hfe, f2] at hd
      simp only [List.append_assoc, List.getElem?_append, List.length_take, List.getElem?_take, List.getElem?_drop] at hu
      have hmin : min off cells.length = off := by omega
      rw [hmin] at hu
      simp only [Nat.add_zero, Array.length_toList] at hd
      by_cases ha : j < off
      · rw [if_pos ha, if_pos ha] at hu
        rw [if_neg (by omega)] at hd
        exact hr j u d hu hd
      · rw [if_neg ha] at hu
        by_cases hb : j - off < v.cells.length
        · rw [if_pos hb] at hu
          rw [if_pos ⟨by omega, by omega, by omega⟩] at hd
          exact k3 _ u d hu (by simpa using hd)
        · rw [if_neg hb] at hu
          rw [if_neg (by omega)] at hd
          exact hr j u d (by rw [← hu]; congr 1; omega) hd
    obtain ⟨ds', g1, g2, g3, g4, g5⟩ := vfill_ok (C := C) (parts := parts) (cparts := cparts) (by simpa using hn) (fun j p q hpj hqj => hp (j + 1) p q (by simpa using hpj) (by simpa using hqj)) (ds := c.cells.zipIdx.foldl (fun (cs : Array Value) (p : Value × Nat) => cs.setIfInBounds (off + p.2) p.1) ds)
      (by rw [hfe, f1, hl, List.length_append, List.length_append, List.length_take, List.length_drop, c1]; omega) (by
        simp only [List.all_append, Bool.and_eq_true]
        exact ⟨⟨List.all_eq_true.2 fun x hx => List.all_eq_true.1 h1 x (List.mem_of_mem_take hx), k2⟩, List.all_eq_true.2 fun x hx => List.all_eq_true.1 h1 x (List.mem_of_mem_drop hx)⟩) hnew h
    refine ⟨ds', ?_, g2, ?_, g4, g5⟩
    · simp only [Instr.fill, hpl]
      have hn1 : ¬ (c.cells.size ≠ sz ∨ off + c.cells.size > ds.size) := by rw [k1, c1, hl]; omega
      rw [if_neg (by simpa using hn1)]
      exact g1
    · rw [g3, List.length_append, List.length_append, List.length_take, List.length_drop, c1]; omega

def vbuild (τ : TypeId → Option TyD) (t : TypeId) (parts : List (Nat × V)) : Option V :=
  match τ t with
  | some ⟨.st fs, _, _, z⟩ => (vfill (fun i => match fs[i]? with
      | some (ft, off) => (τ ft).map fun D => (off, D.sz)
      | none => none) z parts).map .agg
  | some ⟨.arr _ e, _, _, z⟩ => match τ e with
    | some D => (vfill (fun i => some (i * D.sz, D.sz)) z parts).map .agg
    | none => none
  | _ => none

theorem zero_rels {P : Program} {C : Cx} {t : TypeId} {D : TyD} (h : TyAt P t D) {z : Value} (hz : z.cells.toList.map toV1 = D.z) : z.cells.size = D.z.length ∧ D.z.all V.one = true ∧ ∀ (j : Nat) v d, D.z[j]? = some v → z.cells[j]? = some d → VRel C v d ∧ d.oneCell' = true :=
  ⟨by rw [← hz]; simp, h.one, fun j v d hj hd => by
    obtain ⟨_, c, hc, hp, ho⟩ := zero_rel h hz C.w C.S j v hj
    rw [hd] at hc; cases hc
    exact ⟨.pure _ _ hp, ho⟩⟩

theorem vfill_congr {pl pl' : Nat → Option (Nat × Nat)} (h : ∀ i x, pl i = some x → pl' i = some x) : ∀ {parts : List (Nat × V)} {cells cells' : List V}, vfill pl cells parts = some cells' → vfill pl' cells parts = some cells'
  | [], cells, cells', hf => hf
  | (i, v) :: rest, cells, cells', hf => by
    simp only [vfill] at hf ⊢
    split at hf <;> first | (cases hf; done) | skip
    rename_i off sz hpl
    rw [h i _ hpl]
    split at hf <;> first | (cases hf; done) | skip
    rename_i hc
    dsimp only
    rw [if_pos hc]
    exact vfill_congr h hf

theorem mapM_get {α β : Type} {f : α → Option β} : ∀ {l : List α} {r : List β}, l.mapM f = some r → ∀ (i : Nat) x, l[i]? = some x → ∃ y, f x = some y ∧ r[i]? = some y
  | [], r, h, i, x, hx => by simp at hx
  | a :: l, r, h, i, x, hx => by
    simp only [List.mapM_cons, Option.bind_eq_bind, Option.pure_def] at h
    obtain ⟨b, hb, h⟩ := Option.bind_eq_some_iff.1 h
    obtain ⟨r', hr, h⟩ := Option.bind_eq_some_iff.1 h
    simp only [Option.some.injEq] at h
    subst h
    cases i with
    | zero => simp only [List.getElem?_cons_zero, Option.some.injEq] at hx ⊢; subst hx; exact ⟨b, hb, rfl⟩
    | succ i => simp only [List.getElem?_cons_succ] at hx ⊢; exact mapM_get hr i x hx

theorem vbuild_ok {P : Program} {C : Cx} {τ : TypeId → Option TyD} (hτ : TyOk P τ) {t : TypeId} {parts : List (Nat × V)} {cparts : Array (Nat × Value)} {v : V} (hn : parts.length = cparts.size)
    (hp : ∀ (j : Nat) p q, parts[j]? = some p → cparts[j]? = some q → p.1 = q.1 ∧ VRel C p.2 q.2) (h : vbuild τ t parts = some v) : ∃ c, (Instr.build t cparts).run P C.w = .ok c C.w ∧ VRel C v c := by
  have hp' : ∀ (j : Nat) p q, parts[j]? = some p → cparts.toList[j]? = some q → p.1 = q.1 ∧ VRel C p.2 q.2 := fun j p q h1 h2 => hp j p q h1 (by simpa using h2)
  have fin : ∀ (D : TyD) (pl : Nat → Option (Nat × Nat)) (z zz : Value) (cs : List V), TyAt P t D → zz.cells.toList.map toV1 = D.z → vfill pl D.z parts = some cs → ∃ ds, Instr.fill pl zz.cells cparts.toList = some ds ∧ VRel C (.agg cs) (.agg ds) := by
    intro D pl z zz cs hD hzm hf
    obtain ⟨r1, r2, r3⟩ := zero_rels (C := C) hD hzm
    obtain ⟨ds, g1, g2, g3, g4, g5⟩ := vfill_ok (C := C) (by simpa using hn) hp' r1 r2 r3 hf
    exact ⟨ds, g1, .agg _ _ g4 g2 fun j v d h1 h2 => (g5 j v d h1 h2).1⟩
  unfold vbuild at h
  split at h <;> first | (cases h; done) | skip
  · rename_i fs s b z ht
    obtain ⟨cs, hcs, rfl⟩ := Option.map_eq_some_iff.1 h
    have hT := hτ t _ ht
    obtain ⟨d, hd, he⟩ := hT.underlying
    obtain ⟨gs, rfl, hgs⟩ := tdOf_st he
    obtain ⟨i, zz, hi, _, _, hz, hzm⟩ := hT.info
    obtain ⟨places, hpl⟩ := hT.flds gs hd
    have hcs' := vfill_congr (pl' := (places.toArray[·]?)) (fun k x hx => by
      split at hx <;> first | (cases hx; done) | skip
      rename_i ft off hf
      obtain ⟨D, hD, rfl⟩ := Option.map_eq_some_iff.1 hx
      rw [← hgs, List.getElem?_map] at hf
      obtain ⟨fl, hfl, hfe⟩ := Option.map_eq_some_iff.1 hf
      simp only [Prod.mk.injEq] at hfe
      obtain ⟨rfl, rfl⟩ := hfe
      obtain ⟨y, hy, hr⟩ := mapM_get hpl k fl hfl
      obtain ⟨i2, z2, hi2, hs2, _⟩ := (hτ _ _ hD).info
      rw [hi2] at hy
      simp only [Option.map_some, Option.some.injEq] at hy
      rw [List.getElem?_toArray, hr, ← hy, hs2]) hcs
    obtain ⟨ds, g1, g2⟩ := fin _ _ zz zz cs hT hzm hcs'
    exact ⟨_, run_build C.w t cparts ds (by simp only [Program.built, hi, hd, hz, hpl, g1]), g2⟩
  · rename_i n e s b z ht
    split at h <;> first | (cases h; done) | skip
    rename_i D hD
    obtain ⟨cs, hcs, rfl⟩ := Option.map_eq_some_iff.1 h
    have hT := hτ t _ ht
    obtain ⟨d, hd, he⟩ := hT.underlying
    obtain rfl := tdOf_arr he
    obtain ⟨i, zz, hi, _, _, hz, hzm⟩ := hT.info
    obtain ⟨i2, z2, hi2, hs2, _⟩ := (hτ _ _ hD).info
    obtain ⟨ds, g1, g2⟩ := fin _ _ zz zz cs hT hzm hcs
    exact ⟨_, run_build C.w t cparts ds (by simp only [Program.built, hi, hd, hz, hi2, hs2, g1]), g2⟩

/-! ### Literals of slices -/
def zeroElem (D : TyD) : Option V := if D.d.agg then some (.agg D.z) else match D.z with
  | [z] => some z
  | _ => none

/-- A literal's elements, the rest zero. -/
def vlits (D : TyD) : List V → List (Nat × V) → Option (List V)
  | es, [] => some es
  | es, (i, v) :: rest => match strip0 v with
    | some u => if u.cells.length = D.sz ∧ i < es.length ∧ u.isVal = true then vlits D (es.set i u) rest else none
    | none => none

def vblit (τ : TypeId → Option TyD) (t : TypeId) (len : Nat) (parts : List (Nat × V)) : Option V :=
  match τ t with
  | some ⟨.sl e, _, _, _⟩ => match τ e with
    | some D => match zeroElem D with
      | some ze => if len * D.sz ≤ 16777216 ∧ 0 < D.sz ∧ len ≤ 9223372036854775807 then (vlits D (List.replicate len ze) parts).map fun es => .sl D.sz es .clip else none
      | none => none
    | none => none
  | _ => none

end Go.Vx
