/- What each operation does to values without memory: append and copy. -/
import Derived.Test.YtlcdehedojkgoaaDoorV8
import Derived.Deep.AppendSrc
import Derived.Lib.AppendZerosOnto
namespace Go.Vx
open Go.RowKit Go.Fl
set_option linter.unusedVariables false
set_option linter.unusedSimpArgs false
section
variable {P : Program} {C : Cx} {σ : St} {τ : TypeId → Option TyD}

/-- The elements of what is appended, or copied. -/
def vsrc (τ : TypeId → Option TyD) (σ : St) (D : TyD) (y : V) : Option (List V) :=
  match y with
  | .sl sz es _ => if sz = D.sz ∨ es = [] then some es else none
  | .s l => match D.d with
    | .int .u8 => if D.sz = 1 then some (bv l) else none
    | _ => none
  | .osl o off len _ => if D.sz = 1 ∧ D.d.agg = false then match σ.h o with
      | some (.cells cs) => if off + len ≤ cs.length then stripL ((cs.drop off).take len) else none
      | _ => none
    else none
  | _ => none

theorem Flat.nil (w : World) (S : Addr → Prop) (sz : Nat) : Flat w S sz [] [] := ⟨by simp, fun j v h => by simp at h, fun j v k u h => by simp at h, fun d h => by cases h⟩

theorem flat_bv (w : World) (S : Addr → Prop) (l : List UInt8) : Flat w S 1 (bv l) (bc l) := by
  refine ⟨by simp, fun j v hj => ?_, fun j v k u hj hk => ?_, bc_one l⟩
  · obtain ⟨c, _, rfl⟩ := List.mem_map.1 (List.mem_of_getElem? hj); rfl
  · unfold bv at hj
    rw [List.getElem?_map] at hj
    obtain ⟨c, hc, rfl⟩ := Option.map_eq_some_iff.1 hj
    have hk0 : k = 0 := by
      have := (List.getElem?_eq_some_iff.1 hk).1
      simp [V.cells] at this
      exact this
    subst hk0
    simp only [V.cells, List.getElem?_cons_zero, Option.some.injEq] at hk
    subst hk
    exact ⟨rfl, _, by simp [bc, hc], .i _ _⟩

theorem vsrc_ok (hσ : StRel C σ) {tx e' : TypeId} {D : TyD} {y : V} {cy : Value} {ys : List V} (hy : VRel C y cy) (hk : (∃ e', P.underlying tx = some (.slice e')) ∨ (P.underlying tx = some .string ∧ ∃ l, y = .s l)) (hns : ∀ l, y = .s l → P.underlying tx = some .string)
    (h : vsrc τ σ D y = some ys) : ∃ news, Src P D.sz tx cy ys.length news C.w ∧ Flat C.w C.S D.sz ys news := by
  unfold vsrc at h
  split at h <;> first | (cases h; done) | skip
  · rename_i sz es g
    split at h <;> first | (cases h; done) | (simp only [Option.some.injEq] at h; subst h)
    rename_i hsz
    obtain ⟨e', hk'⟩ : ∃ e', P.underlying tx = some (.slice e') := by
      rcases hk with h | ⟨_, l, hl⟩
      · exact h
      · cases hl
    obtain ⟨a, cap, xs, rfl, hr, hF, _⟩ := Flat.of_rd hy.inv_sl
    cases a with
    | none =>
      have h0 := hr.nul rfl
      have h1 := hr.le
      obtain rfl : es = [] := List.eq_nil_of_length_eq_zero (by omega)
      exact ⟨[], Src.ofNil C.w hk' cap, Flat.nil _ _ _⟩
    | some x =>
      by_cases he : es = []
      · subst he
        have : xs = [] := List.eq_nil_of_length_eq_zero (by have := hr.len; simpa using this)
        subst this
        exact ⟨[], Src.ofSlice C.w hk' x 0 cap [] (by simp) (fun j u h => by simp at h) (fun u h => by cases h), Flat.nil _ _ _⟩
      · have := hsz.resolve_right he
        subst this
        exact ⟨xs, Src.ofSlice C.w hk' x _ cap xs hr.len (fun j u hu => hr.cell x rfl j u hu) hF.one, hF⟩
  · rename_i l
    split at h <;> first | (cases h; done) | skip
    split at h <;> first | (cases h; done) | (simp only [Option.some.injEq] at h; subst h)
    rename_i h1
    obtain rfl := hy.inv_s
    rw [h1, bv_length]
    have hs := Src.ofString (P := P) C.w (hns l rfl) (bstr l)
    rw [bstr_size] at hs
    have hbc : byteCells (bstr l) = bc l := by simp [byteCells, bstr, bc]
    rw [hbc] at hs
    exact ⟨bc l, hs, flat_bv _ _ l⟩
  · rename_i o off len cap
    split at h <;> first | (cases h; done) | skip
    rename_i h1
    split at h <;> first | (cases h; done) | skip
    rename_i cs hcs
    split at h <;> first | (cases h; done) | skip
    rename_i hle
    obtain ⟨h1, _⟩ := h1
    obtain ⟨e', hk'⟩ : ∃ e', P.underlying tx = some (.slice e') := by
      rcases hk with h | ⟨_, l, hl⟩
      · exact h
      · cases hl
    obtain ⟨g, cur, e, hg, hh, hl, hcell⟩ := hσ.cells hcs
    obtain ⟨x, cp, rfl, hm, hlc, hcp, hmax, hx⟩ := hy.inv_osl
    have hxg := hx g hg
    subst hxg
    obtain ⟨hl', hget⟩ := stripL_ok h
    have hlen : ys.length = len := by rw [hl']; simp; omega
    have key : ∀ (j : Nat) u, ys[j]? = some u → ∃ c, cur[off + j]? = some c ∧ C.w.cell? ⟨g, off + j, none⟩ = some c ∧ PRel C.w C.S u c ∧ u.one = true := fun j u hu => by
      obtain ⟨v, hv, hs⟩ := hget j u hu
      rw [List.getElem?_take] at hv
      split at hv
      · rw [List.getElem?_drop] at hv
        obtain ⟨a1, c, a2, a3, a4, _⟩ := hcell _ v hv
        exact ⟨c, a2, a3, strip1_ok a4 hs⟩
      · cases hv
    have hcl : ∀ j, j < len → (cur.toList.drop off)[j]? = cur[off + j]? := fun j _ => by rw [List.getElem?_drop, Array.getElem?_toList]
    have hnl : ((cur.toList.drop off).take len).length = len := by simp; omega
    rw [h1, hlen]
    refine ⟨(cur.toList.drop off).take len, Src.ofSlice C.w hk' ⟨g, off, none⟩ len cp _ (by rw [hnl]; simp) (fun j u hu => ?_) (fun u hu => ?_), ⟨by rw [hnl, hlen]; simp, fun j v hj => ?_, fun j v k u hj hk => ?_, fun u hu => ?_⟩⟩
    · rw [List.getElem?_take] at hu
      split at hu
      · rename_i hj
        rw [hcl j hj] at hu
        rw [addr_add, cell_of_row C.w g _ cur e (0, 0) hh]; exact hu
      · cases hu
    · obtain ⟨j, hj⟩ := List.mem_iff_getElem?.1 hu
      rw [List.getElem?_take] at hj
      split at hj
      · rename_i hjl
        rw [hcl j hjl] at hj
        have hy' : ys[j]? = some (ys[j]'(by omega)) := List.getElem?_eq_getElem (by omega)
        obtain ⟨c, a1, _, a3, a4⟩ := key j _ hy'
        rw [hj] at a1; cases a1
        exact a3.oneCell a4
      · cases hj
    · obtain ⟨c, _, _, _, a4⟩ := key j v hj
      rw [cells_one a4]; rfl
    · obtain ⟨c, a1, _, a3, a4⟩ := key j v hj
      rw [cells_one a4] at hk
      cases k with
      | zero =>
        simp only [List.getElem?_cons_zero, Option.some.injEq] at hk
        subst hk
        have hjl : j < len := by rw [← hlen]; exact (List.getElem?_eq_some_iff.1 hj).1
        exact ⟨a4, c, by rw [List.getElem?_take, if_pos (by omega), Nat.mul_one, Nat.add_zero, hcl j hjl]; exact a1, a3⟩
      | succ k => simp at hk
    · obtain ⟨j, hj⟩ := List.mem_iff_getElem?.1 hu
      rw [List.getElem?_take] at hj
      split at hj
      · rename_i hjl
        rw [hcl j hjl] at hj
        have hy' : ys[j]? = some (ys[j]'(by omega)) := List.getElem?_eq_getElem (by omega)
        obtain ⟨c, a1, _, a3, a4⟩ := key j _ hy'
        rw [hj] at a1; cases a1
        exact a3.oneCell a4
      · cases hj

/-- The room in which a slice may grow: of an entry (to be ended), or none. -/
def vgrow (σ : St) (e : TypeId) (ok : Prop) [Decidable ok] : Gr → Option Nat
  | .tok t => match σ.h t with
    | some (.tok e') => if e' = e ∧ ok then some t else none
    | _ => none
  | .clip => some σ.n
  | _ => none

def St.tok (σ : St) (t : Nat) (e : TypeId) : St := ⟨upd (upd σ.h t none) σ.n (some (.tok e)), σ.n + 1⟩

def vapp (τ : TypeId → Option TyD) (σ : St) (obj : Bool) (t : TypeId) (x y : V) : Option (V × St) :=
  match τ t with
  | some ⟨.sl e, _, _, _⟩ => match τ e with
    | some D => match x with
      | .sl sz es g => match vsrc τ σ D y with
        | some ys =>
          if (sz = D.sz ∨ es = []) ∧ 0 < D.sz ∧ (es.length + ys.length) * D.bys ≤ 140737488355328 ∧ es.length + ys.length ≤ 140737488355328 then
            (if ys.isEmpty && !es.isEmpty && decide (g = .clip) then (if obj then none else some (.sl sz es .clip, σ)) else
            match vgrow σ e (sz = D.sz) g with
            | some t =>
              if obj then
                (if g = .clip then
                  (if (es ++ ys).isEmpty then some (.sl D.sz [] .no, σ) else some (.osl σ.n 0 (es ++ ys).length (es ++ ys).length, σ.new ((es ++ ys).flatMap V.cells)))
                else none)
              else some (.sl D.sz (es ++ ys) (.tok σ.n), σ.tok t e)
            | none => none)
          else none
        | none => none
      | _ => none
    | none => none
  | _ => none

theorem app_room {w : World} {t tx ty e : TypeId} {i : TypeInfo} (ht : P.underlying t = some (.slice e)) (hi : P.info? e = some i) {g n cap : Nat} {cur : Array Value} {e1 : TypeId} (hg : w.heap[g]? = some (.cells cur e1 (0, 0))) {x : Value} {m : Nat} {news : List Value}
    (hs : Src P i.size tx x m news w) (hroom : n + m ≤ cap) (hfit : n * i.size + news.length ≤ cur.size) :
    (Builtin.append_ #[t, tx] ty #[.slice (some ⟨g, 0, none⟩) n cap, x]).run P w = .ok (.slice (some ⟨g, 0, none⟩) (n + m) cap) (w.setRow g (cur.toList.take (n * i.size) ++ news ++ cur.toList.drop (n * i.size + news.length)).toArray) := by
  have hst := run_storeCells_at P g (n * i.size) e1 news 0 cur w hg (by simpa using hfit) hs.one
  simp only [Nat.add_zero] at hst
  rcases hs.kind with ⟨e', hk⟩ | hk <;> simp [Builtin.append_, run_underlying ht, run_underlying hk, sizeOf, typeInfo, hi, hs.len, hroom, hs.cells, Addr.add_lit, hst]

theorem app_nothing {w : World} {t tx ty e : TypeId} {i : TypeInfo} (ht : P.underlying t = some (.slice e)) (hi : P.info? e = some i) {a : Option Addr} {n cap : Nat} {x : Value} (hs : Src P i.size tx x 0 [] w) (hle : n ≤ cap) :
    (Builtin.append_ #[t, tx] ty #[.slice a n cap, x]).run P w = .ok (.slice a n cap) w := by
  have h1 := hs.cells
  rcases hs.kind with ⟨e', hk⟩ | hk <;> cases a <;> simp [Builtin.append_, run_underlying ht, run_underlying hk, sizeOf, typeInfo, hi, hs.len, hle, h1, storeCells]

theorem flat_any {w : World} {S : Addr → Prop} {sz sz' : Nat} {es : List V} {xs : List Value} {a : Option Addr} {cap : Nat} (hr : Rd w sz a es.length cap xs) (hF : Flat w S sz es xs) (h : sz = sz' ∨ es = []) : Rd w sz' a es.length cap xs ∧ Flat w S sz' es xs := by
  rcases h with rfl | rfl
  · exact ⟨hr, hF⟩
  · have : xs = [] := List.eq_nil_of_length_eq_zero (by have := hr.len; simpa using this)
    subst this
    exact ⟨⟨by simp, hr.le, hr.max, hr.nul, fun x hx j u hu => by simp at hu⟩, Flat.nil _ _ _⟩

theorem flat_len {sz : Nat} : ∀ {es : List V}, (∀ (j : Nat) v, es[j]? = some v → v.cells.length = sz) → (es.flatMap V.cells).length = es.length * sz
  | [], _ => by simp
  | v :: es, h => by
    rw [List.flatMap_cons, List.length_append, h 0 v rfl, flat_len fun j u hj => h (j + 1) u (by simpa using hj), List.length_cons, Nat.add_mul]; omega
theorem flat_at {sz : Nat} : ∀ {es : List V}, (∀ (j : Nat) v, es[j]? = some v → v.cells.length = sz) → ∀ (q : Nat) u, (es.flatMap V.cells)[q]? = some u → ∃ v, es[q / sz]? = some v ∧ v.cells[q % sz]? = some u
  | [], _, q, u, hu => by simp at hu
  | v :: es, h, q, u, hu => by
    have h0 := h 0 v rfl
    rw [List.flatMap_cons] at hu
    by_cases hq : q < sz
    · rw [List.getElem?_append_left (by omega)] at hu
      exact ⟨v, by rw [Nat.div_eq_of_lt hq]; rfl, by rw [Nat.mod_eq_of_lt hq]; exact hu⟩
    · rw [List.getElem?_append_right (by omega), h0] at hu
      have hs : 0 < sz := by
        rcases Nat.eq_zero_or_pos sz with hz | hz
        · subst hz
          have hl := flat_len (sz := 0) (es := es) fun j u hj => h (j + 1) u (by simpa using hj)
          have := (List.getElem?_eq_some_iff.1 hu).1
          omega
        · exact hz
      obtain ⟨w, h1, h2⟩ := flat_at (fun j u hj => h (j + 1) u (by simpa using hj)) _ u hu
      refine ⟨w, ?_, ?_⟩
      · rw [Nat.div_eq_sub_div hs (by omega)]; simpa using h1
      · rw [Nat.mod_eq_sub_mod (by omega)]; exact h2
theorem flat_cells {w : World} {S : Addr → Prop} {sz : Nat} {es : List V} {ds : List Value} (h : Flat w S sz es ds) (q : Nat) (u : V) (hu : (es.flatMap V.cells)[q]? = some u) : u.one = true ∧ ∃ d, ds[q]? = some d ∧ PRel w S u d := by
  obtain ⟨v, h1, h2⟩ := flat_at h.cl q u hu
  obtain ⟨a1, d, a2, a3⟩ := h.rel _ v _ u h1 h2
  have hs : 0 < sz := by
    have := (List.getElem?_eq_some_iff.1 h2).1
    rw [h.cl _ v h1] at this; omega
  rw [← flat_index hs] at a2
  exact ⟨a1, d, a2, a3⟩

/-- The places of a slice that may grow. -/
theorem StRel.tokS {t n cap e sz : Nat} {x : Addr} (hσ : StRel C σ) (ht : C.m t = .tok (some x) n cap e sz) (q : Nat) (hq : (x.add q).off < n * sz) : C.S (x.add q) := by
  have hb : (C.m t).blk = some x.block := by rw [ht]; rfl
  refine ⟨hσ.own t _ hb _ (add_block _ _), fun o g hg he => ?_, fun u y n' cap' e' sz' hu he => ?_⟩
  · rw [add_block] at he
    have := hσ.inj o t g (by rw [hg]; rfl) (by rw [hb, he])
    rw [this, ht] at hg; cases hg
  · rw [add_block] at he
    have := hσ.inj u t y.block (by rw [hu]; rfl) (by rw [hb, he])
    rw [this, ht] at hu
    cases hu
    exact hq

theorem tok_rel {C' : Cx} {σ' : St} (hσ' : StRel C' σ') {t : Nat} {a : Option Addr} {n cap e sz : Nat} (ht : C'.m t = .tok a n cap e sz) {es : List V} {xs : List Value} (hn : es.length = n) (hO : Own C'.w 0 e sz a n cap xs) (hF : Flat C'.w C'.S sz es xs) :
    VRel C' (.sl sz es (.tok t)) (.slice a n cap) := by
  subst hn
  refine .tok sz es t _ (hF.prel hO.rd (.inl rfl) fun x q hx hq => ?_) (by rw [ht]; simp) (fun a' n' cap' e' z' h => ?_) (fun a' n' h => by rw [ht] at h; cases h)
  · subst hx
    refine hσ'.tokS ht q ?_
    obtain ⟨g, hg, _⟩ := hO.form (Nat.pos_of_ne_zero fun h => by rw [h] at hq; simp at hq)
    simp only [Option.some.injEq] at hg
    subst hg
    rw [addr_add]; simpa using hq
  · rw [ht] at h
    simp only [Ent.tok.injEq] at h
    obtain ⟨rfl, rfl, rfl, rfl, rfl⟩ := h
    exact ⟨rfl, rfl⟩

/-- The same, of what is added. -/
def vappC (σ : St) (obj : Bool) (e : TypeId) (D : TyD) (x : V) (ys : List V) : Option (V × St) :=
  match x with
  | .sl sz es g =>
    if (sz = D.sz ∨ es = []) ∧ 0 < D.sz ∧ (es.length + ys.length) * D.bys ≤ 140737488355328 ∧ es.length + ys.length ≤ 140737488355328 then
      (if ys.isEmpty && !es.isEmpty && decide (g = .clip) then (if obj then none else some (.sl sz es .clip, σ)) else
      match vgrow σ e (sz = D.sz) g with
      | some t =>
        if obj then
          (if g = .clip then
            (if (es ++ ys).isEmpty then some (.sl D.sz [] .no, σ) else some (.osl σ.n 0 (es ++ ys).length (es ++ ys).length, σ.new ((es ++ ys).flatMap V.cells)))
          else none)
        else some (.sl D.sz (es ++ ys) (.tok σ.n), σ.tok t e)
      | none => none)
    else none
  | _ => none

theorem vappC_ok (hτ : TyOk P τ) (hσ : StRel C σ) {obj : Bool} {t tx ty e : TypeId} {s b : Nat} {z : List V} {D : TyD} {x v : V} {ys : List V} {cx cy : Value} {σ' : St} {i : TypeInfo} {zz : Value} {news : List Value} (ht : τ t = some ⟨.sl e, s, b, z⟩) (hD : τ e = some D) (hd : P.underlying t = some (.slice e))
    (hi : P.info? e = some i) (hs0 : i.size = D.sz) (hb0 : i.bytes = D.bys) (hz : i.zero = some zz) (hzm : zz.cells.toList.map toV1 = D.z) (hx : VRel C x cx) (hnl : news.length = ys.length * D.sz) (hFy : Flat C.w C.S D.sz ys news)
    (R0 : ys = [] → ∀ a n cap, n ≤ cap → (Builtin.append_ #[t, tx] ty #[.slice a n cap, cy]).run P C.w = .ok (.slice a n cap) C.w)
    (R1 : ys ≠ [] → ∀ g n cap cur e1, C.w.heap[g]? = some (.cells cur e1 (0, 0)) → n + ys.length ≤ cap → n * i.size + news.length ≤ cur.size → (n + ys.length) * i.bytes ≤ 140737488355328 →
      (Builtin.append_ #[t, tx] ty #[.slice (some ⟨g, 0, none⟩) n cap, cy]).run P C.w = .ok (.slice (some ⟨g, 0, none⟩) (n + ys.length) cap) (C.w.setRow g (cur.toList.take (n * i.size) ++ news ++ cur.toList.drop (n * i.size + news.length)).toArray))
    (R2 : ∀ base sLen sCap olds, (Builtin.firstCells i.size sLen (.slice base sLen sCap)).run P C.w.drew = .ok olds.toArray C.w.drew → sCap < sLen + ys.length → sLen ≤ sCap → ((sLen + ys.length : Nat) : Int) ≤ 9223372036854775807 → (sLen + ys.length) * i.bytes ≤ 140737488355328 →
      Builtin.nextslicecap (sLen + ys.length) sCap * i.bytes ≤ 281474976710656 →
      (Builtin.append_ #[t, tx] ty #[.slice base sLen sCap, cy]).run P C.w =
        .ok (.slice (some ⟨C.w.heap.size, 0, none⟩) (sLen + ys.length) (grownCap C.w (sLen + ys.length) sCap e))
          (C.w.drew.alloc (.cells ((olds ++ news).toArray ++ Builtin.zeroCells zz.cells (grownCap C.w (sLen + ys.length) sCap e - (sLen + ys.length))) e)))
    (h : vappC σ obj e D x ys = some (v, σ')) : ∃ C', Ext' C C' ∧ StRel C' σ' ∧ ∃ c, VRel C' v c ∧ (Builtin.append_ #[t, tx] ty #[cx, cy]).run P C.w = .ok c C'.w := by
  unfold vappC at h
  split at h <;> first | (cases h; done) | skip
  rename_i sz es g
  split at h <;> first | (cases h; done) | skip
  rename_i hc
  obtain ⟨c1, c2, c3, c4⟩ := hc
  have hzs : zz.cells.size = D.sz := by rw [← (hτ _ _ hD).len, ← hzm]; simp
  obtain ⟨a, cap, xs, rfl, hr0, hF0, _⟩ := Flat.of_rd hx.inv_sl
  obtain ⟨hr, hF⟩ := flat_any hr0 hF0 c1
  have hmax := hr.max
  have hle := hr.le
  split at h
  · rename_i hq
    split at h <;> first | (cases h; done) | skip
    simp only [Option.some.injEq, Prod.mk.injEq] at h
    obtain ⟨rfl, rfl⟩ := h
    simp only [Bool.and_eq_true, decide_eq_true_eq, List.isEmpty_iff] at hq
    obtain ⟨⟨q1, _⟩, q2⟩ := hq
    subst q1; subst q2
    have hn0 : news = [] := List.eq_nil_of_length_eq_zero (by simpa using hnl)
    subst hn0
    exact ⟨C, .refl _, hσ, _, hx, R0 rfl _ _ _ hle⟩
  rename_i hnq
  split at h <;> first | (cases h; done) | skip
  rename_i tk htk
  -- what stands behind the slice
  obtain ⟨hobj, hent⟩ : (∀ q, C.m tk ≠ .obj q) ∧ ((cap = es.length ∧ (ys = [] → es = [])) ∨ ∃ xs0, C.m tk = .tok a es.length cap e D.sz ∧ Own C.w 0 e D.sz a es.length cap xs0) := by
    unfold vgrow at htk
    split at htk
    · rename_i u
      split at htk <;> first | (cases htk; done) | skip
      rename_i e' hu
      split at htk <;> first | (cases htk; done) | skip
      rename_i hee
      simp only [Option.some.injEq] at htk
      obtain ⟨h1, h2⟩ := hee
      subst htk
      subst h1
      refine ⟨fun q hq => ?_, ?_⟩
      · obtain ⟨cs, hcs⟩ := hσ.live u q hq
        rw [hu] at hcs; cases hcs
      · cases hx with
        | pure _ _ h => cases h with
          | sl _ _ _ _ _ _ _ _ _ _ _ hg =>
            rcases hg with h | h
            · cases h
            · cases h.1
        | tok _ _ _ _ hp hm q1 q2 =>
          rcases hσ.tok u e' hu with ⟨a', hm'⟩ | ⟨a', n', cap', sz', xs', hm', ho'⟩
          · have := q2 a' 0 hm'
            simp only [Value.slice.injEq] at this
            left
            exact ⟨by omega, fun _ => List.eq_nil_of_length_eq_zero this.2.1⟩
          · obtain ⟨r1, r2⟩ := q1 a' n' cap' e' sz' hm'
            simp only [Value.slice.injEq] at r1
            obtain ⟨r3, r4, r5⟩ := r1
            subst r3; subst r4; subst r5
            rw [r2, h2] at hm' ho'
            exact .inr ⟨xs', hm', ho'⟩
    · simp only [Option.some.injEq] at htk
      subst htk
      refine ⟨fun q hq => (by rw [hσ.absent] at hq; cases hq), .inl ?_⟩
      have hcl := hx.inv_clip
      obtain ⟨_, _, _, e1, _, _, _, _, e2⟩ := hcl.rd
      simp only [Value.slice.injEq] at e1
      have := e2 rfl
      refine ⟨by omega, fun hy0 => ?_⟩
      subst hy0
      simpa using hnq
    · cases htk
  have hFs : ∀ (C' : Cx), Ext C C' → Flat C'.w C'.S D.sz (es ++ ys) (xs ++ news) := fun C' hx' => (hF.append hFy).mono hx'.cell
  have huniq : ∀ xs0, Own C.w 0 e D.sz a es.length cap xs0 → xs0 = xs := by
    intro xs0 ho
    have h1 := hr.len
    have h2 := ho.rd.len
    cases a with
    | none =>
      have := hr.nul rfl
      have h3 : es.length = 0 := by omega
      rw [h3] at h1 h2
      have e1 : xs = [] := List.eq_nil_of_length_eq_zero (by rw [h1]; simp)
      have e2 : xs0 = [] := List.eq_nil_of_length_eq_zero (by rw [h2]; simp)
      rw [e1, e2]
    | some x =>
      apply List.ext_getElem?
      intro j
      by_cases hj : j < xs.length
      · have e1 := hr.cell x rfl j _ (List.getElem?_eq_getElem hj)
        have e2 := ho.rd.cell x rfl j _ (List.getElem?_eq_getElem (show j < xs0.length by omega))
        rw [e1] at e2
        rw [List.getElem?_eq_getElem hj, List.getElem?_eq_getElem (show j < xs0.length by omega), e2]
      · rw [List.getElem?_eq_none (by omega), List.getElem?_eq_none (by omega)]
  have hlapp : (es ++ ys).length = es.length + ys.length := List.length_append
  have hold : (Builtin.firstCells i.size es.length (.slice a es.length cap)).run P C.w.drew = .ok xs.toArray C.w.drew := by
    cases a with
    | some x => exact run_firstCells_some C.w.drew i.size es.length x es.length cap xs (by rw [hs0]; exact hr.len) (fun j u hu => by simpa using hr.cell x rfl j u hu)
    | none =>
      have := hr.nul rfl
      have h0 : es.length = 0 := by omega
      have hx0 : xs = [] := List.eq_nil_of_length_eq_zero (by have := hr.len; rw [h0] at this; simpa using this)
      rw [hx0, h0]
      exact run_firstCells_none C.w.drew i.size 0 0 cap
  have hbb : (es.length + ys.length) * i.bytes ≤ 140737488355328 := by rw [hb0]; exact c3
  have h63 : es.length + ys.length ≤ maxLen := by unfold maxLen; omega
  have hlen : (xs ++ news).length = (es.length + ys.length) * D.sz := by rw [List.length_append, hr.len, hnl, Nat.add_mul]
  split at h
  · split at h <;> first | (cases h; done) | skip
    rename_i hgc
    subst hgc
    have hcap : cap = es.length := by
      obtain ⟨_, _, _, e1, _, _, _, _, e2⟩ := hx.inv_clip.rd
      simp only [Value.slice.injEq] at e1
      have := e2 rfl
      omega
    split at h
    · rename_i hemp
      simp only [Option.some.injEq, Prod.mk.injEq] at h
      obtain ⟨rfl, rfl⟩ := h
      obtain ⟨rfl, rfl⟩ : es = [] ∧ ys = [] := by simpa using hemp
      have hn0 : news = [] := List.eq_nil_of_length_eq_zero (by simpa using hnl)
      subst hn0
      exact ⟨C, .refl _, hσ, _, .pure _ _ (hF.prel hr (.inl rfl) fun x q _ hq => by simp at hq), R0 rfl _ _ _ hle⟩
    · rename_i hemp
      simp only [Option.some.injEq, Prod.mk.injEq] at h
      obtain ⟨rfl, rfl⟩ := h
      have hy0 : 0 < ys.length := by
        rcases Nat.eq_zero_or_pos ys.length with h0 | h0
        · have := List.eq_nil_of_length_eq_zero h0
          subst this
          simp at hnq hemp
          exact absurd hnq hemp
        · exact h0
      have hgw : cap < es.length + ys.length := by omega
      have hrun := R2 a es.length cap xs hold hgw hle (by omega) hbb (growslice_fits hgw hbb)
      have hge := grownCap_ge C.w (es.length + ys.length) cap e
      have hcm := grownCap_le_maxLen C.w (es.length + ys.length) cap e h63
      generalize grownCap C.w (es.length + ys.length) cap e = nc at *
      have hbel : Below C.w.heap.size C.w (C.w.drew.alloc (.cells ((xs ++ news).toArray ++ Builtin.zeroCells zz.cells (nc - (es.length + ys.length))) e)) := (Below.refl _ _).drew.alloc (Nat.le_refl _) _
      have hnew := heap_alloc_new C.w.drew (.cells ((xs ++ news).toArray ++ Builtin.zeroCells zz.cells (nc - (es.length + ys.length))) e)
      generalize C.w.drew.alloc (.cells ((xs ++ news).toArray ++ Builtin.zeroCells zz.cells (nc - (es.length + ys.length))) e) = W' at hrun hbel hnew
      have hFl := hF.append hFy
      obtain ⟨n1, n2⟩ := hσ.newObjAt W' C.w.heap.size hbel (Nat.le_refl _) ((es ++ ys).flatMap V.cells) _ e hnew (by rw [flat_len hFl.cl]; simp only [Array.size_append, List.size_toArray]; rw [← hFl.len]; omega) (fun q u hq => by
        obtain ⟨a1, dd, a2, a3⟩ := flat_cells hFl q u hq
        refine ⟨a1, dd, ?_, .pure _ _ a3, a3.oneCell a1⟩
        rw [Array.getElem?_append_left (by simpa using (List.getElem?_eq_some_iff.1 a2).1), List.getElem?_toArray]
        exact a2)
      refine ⟨_, n1, n2, .slice (some ⟨C.w.heap.size, 0, none⟩) (es.length + ys.length) nc, ?_, hrun⟩
      rw [hlapp]
      exact .osl _ _ _ _ _ _ (by simp [upd]) (Nat.le_refl _) hge hcm (fun g hg => by simp [upd] at hg; rw [hg])
  simp only [Option.some.injEq, Prod.mk.injEq] at h
  obtain ⟨rfl, rfl⟩ := h
  by_cases hroom : es.length + ys.length ≤ cap
  · by_cases hm : ys = []
    · subst hm
      have hn0 : news = [] := List.eq_nil_of_length_eq_zero (by simpa using hnl)
      subst hn0
      have hrun := R0 rfl a es.length cap hle
      simp only [List.append_nil] at hFs ⊢
      rcases hent with ⟨hcap, hnil⟩ | ⟨xs0, hm0, ho⟩
      · obtain rfl := hnil rfl
        obtain ⟨d1, d2⟩ := hσ.dropTok tk hobj
        obtain ⟨n1, n2⟩ := d2.newClip a e
        refine ⟨_, d1.trans n1, n2, .slice a ([] : List V).length cap, ?_, hrun⟩
        refine .tok _ _ _ _ ?_ (by simp [upd]) (fun a' n' cap' e' z' h => by simp [upd] at h) (fun a' n' h => ?_)
        · exact (hF.prel hr (.inl rfl) fun x q hx' hq => by simp at hq).mono (d1.trans n1).cell
        · simp only [upd_same, Ent.clip.injEq] at h
          obtain ⟨r1, r2⟩ := h
          rw [← r1, ← r2, hcap]; rfl
      · have hxs := huniq xs0 ho
        subst hxs
        obtain ⟨n1, n2⟩ := hσ.newTok tk C.w (a.map (·.block)) a es.length cap e D.sz xs0 ⟨rfl, rfl, rfl, Nat.le_refl _, fun _ _ _ => rfl⟩ hobj (fun b hb => by
          obtain ⟨x, hx', hb'⟩ := Option.map_eq_some_iff.1 hb
          subst hx'
          exact ⟨x, _, _, _, hm0, hb', Nat.le_refl _, fun p _ _ c hc => hc⟩) ho (fun x hx' => by subst hx'; exact .inr rfl)
        exact ⟨_, n1, n2, _, tok_rel n2 (upd_same _ _ _) rfl ho (hFs _ n1.toExt), hrun⟩
    · have hm0 : 0 < ys.length := List.length_pos_iff.2 hm
      rcases hent with ⟨hcap, _⟩ | ⟨xs0, hmt, ho⟩
      · omega
      · have hxs := huniq xs0 ho
        subst hxs
        have hO := ho
        obtain ⟨hl, h⟩ := ho
        rcases h with ⟨hv, _⟩ | ⟨gb, c', cur, hv, _, hh, hn1, hm1, hcs, htk2⟩
        · simp only [Value.slice.injEq] at hv; omega
        · simp only [Value.slice.injEq] at hv
          obtain ⟨r1, _, r3⟩ := hv
          subst r1; subst r3
          have hfit : es.length * i.size + news.length ≤ cur.size := by rw [hs0, hnl, hcs, ← Nat.add_mul]; exact Nat.mul_le_mul_right _ hroom
          have hrun := R1 hm _ es.length cap _ _ hh hroom hfit (by rw [hb0]; exact c3)
          rw [hs0] at hrun hfit
          have hlen : (xs0 ++ news).length = (es.length + ys.length) * D.sz := by rw [List.length_append, hl, hnl, Nat.add_mul]
          have hO' : Own (C.w.setRow gb (cur.toList.take (es.length * D.sz) ++ news ++ cur.toList.drop (es.length * D.sz + news.length)).toArray) 0 e D.sz (some ⟨gb, 0, none⟩) (es.length + ys.length) cap (xs0 ++ news) := by
            refine ⟨hlen, .inr ⟨gb, cap, _, rfl, Nat.zero_le _, setRow_heap _ gb cur _ e _ hh, hroom, hm1, ?_, ?_⟩⟩
            · simp only [List.size_toArray, List.length_append, List.length_take, List.length_drop, Array.length_toList]; omega
            · rw [htk2, ← hlen]; exact List.take_left
          have hgr : C.w.grownBy (C.w.setRow gb (cur.toList.take (es.length * D.sz) ++ news ++ cur.toList.drop (es.length * D.sz + news.length)).toArray) (some gb) := ⟨rfl, rfl, rfl, by simp, fun k _ hk => setRow_other _ gb k _ (fun e => hk (by simp [e]))⟩
          have hrow' := setRow_heap C.w gb cur (cur.toList.take (es.length * D.sz) ++ news ++ cur.toList.drop (es.length * D.sz + news.length)).toArray e (0, 0) hh
          generalize C.w.setRow gb (cur.toList.take (es.length * D.sz) ++ news ++ cur.toList.drop (es.length * D.sz + news.length)).toArray = W' at hrun hO' hgr hrow'
          obtain ⟨n1, n2⟩ := hσ.newTok tk W' (some gb) (some ⟨gb, 0, none⟩) (es.length + ys.length) cap e D.sz (xs0 ++ news) hgr hobj (fun b hb => by
            simp only [Option.some.injEq] at hb
            refine ⟨_, _, _, _, hmt, hb, Nat.le_add_right _ _, fun p hp hpo c hc => ?_⟩
            have hpb : p.block = gb := by omega
            obtain ⟨pb, po, ps⟩ := p
            dsimp only at hpb hpo
            subst hpb
            have hps : ps = none := by
              cases ps with
              | none => rfl
              | some q => simp [World.cell?, hh] at hc
            subst hps
            rw [cell_of_row C.w pb po cur e (0, 0) hh] at hc
            rw [cell_of_row W' pb po _ e (0, 0) hrow']
            have hp1 : po < cur.toList.length := by have := (Array.getElem?_eq_some_iff.1 hc).1; simpa using this
            simp only [List.append_assoc, List.getElem?_toArray]
            rw [List.getElem?_append_left (by rw [List.length_take]; omega), List.getElem?_take, if_pos hpo, Array.getElem?_toList]
            exact hc) hO' (fun x hx' => by simp only [Option.some.injEq] at hx'; subst hx'; exact .inr rfl)
          exact ⟨_, n1, n2, _, tok_rel n2 (upd_same _ _ _) hlapp hO' (hFs _ n1.toExt), hrun⟩
  · have hgw : cap < es.length + ys.length := by omega
    have hrun := R2 a es.length cap xs hold hgw hle (by omega) hbb (growslice_fits hgw hbb)
    have hge := grownCap_ge C.w (es.length + ys.length) cap e
    have hcm := grownCap_le_maxLen C.w (es.length + ys.length) cap e h63
    generalize grownCap C.w (es.length + ys.length) cap e = nc at *
    have hO' : Own (C.w.drew.alloc (.cells ((xs ++ news).toArray ++ Builtin.zeroCells zz.cells (nc - (es.length + ys.length))) e)) 0 e D.sz (some ⟨C.w.heap.size, 0, none⟩) (es.length + ys.length) nc (xs ++ news) := by
      refine ⟨hlen, .inr ⟨C.w.heap.size, nc, _, rfl, Nat.zero_le _, heap_alloc_new C.w.drew _, hge, hcm, ?_, ?_⟩⟩
      · simp only [Array.size_append, List.size_toArray, size_zeroCells, hzs, hlen, ← Nat.add_mul]
        congr 1; omega
      · rw [Array.toList_append, ← hlen]; exact List.take_left
    have hgr : C.w.grownBy (C.w.drew.alloc (.cells ((xs ++ news).toArray ++ Builtin.zeroCells zz.cells (nc - (es.length + ys.length))) e)) none := ⟨rfl, rfl, rfl, by simp, fun k hk _ => Below.heap_alloc C.w.drew _ k hk⟩
    generalize C.w.drew.alloc (.cells ((xs ++ news).toArray ++ Builtin.zeroCells zz.cells (nc - (es.length + ys.length))) e) = W' at hrun hO' hgr
    obtain ⟨n1, n2⟩ := hσ.newTok tk W' none (some ⟨C.w.heap.size, 0, none⟩) (es.length + ys.length) nc e D.sz (xs ++ news) hgr hobj (fun b hb => by cases hb) hO' (fun x hx' => by simp only [Option.some.injEq] at hx'; subst hx'; exact .inl (Nat.le_refl _))
    exact ⟨_, n1, n2, _, tok_rel n2 (upd_same _ _ _) hlapp hO' (hFs _ n1.toExt), hrun⟩

theorem vapp_ok (hτ : TyOk P τ) (hσ : StRel C σ) {obj : Bool} {t tx ty : TypeId} {x y v : V} {cx cy : Value} {σ' : St} (hx : VRel C x cx) (hy : VRel C y cy) (hk : (∃ e', P.underlying tx = some (.slice e')) ∨ (P.underlying tx = some .string ∧ ∃ l, y = .s l)) (hns : ∀ l, y = .s l → P.underlying tx = some .string)
    (h : vapp τ σ obj t x y = some (v, σ')) : ∃ C', Ext' C C' ∧ StRel C' σ' ∧ ∃ c, VRel C' v c ∧ (Builtin.append_ #[t, tx] ty #[cx, cy]).run P C.w = .ok c C'.w := by
  unfold vapp at h
  split at h <;> first | (cases h; done) | skip
  rename_i e s b z ht
  split at h <;> first | (cases h; done) | skip
  rename_i D hD
  split at h <;> first | (cases h; done) | skip
  rename_i sz es g
  split at h <;> first | (cases h; done) | skip
  rename_i ys hys
  obtain ⟨d, hd, he⟩ := (hτ t _ ht).underlying
  obtain rfl := tdOf_sl he
  obtain ⟨i, zz, hi, hs0, hb0, hz, hzm⟩ := (hτ _ _ hD).info
  obtain ⟨news, hs, hFy⟩ := vsrc_ok (P := P) (e' := 0) hσ hy hk hns hys
  have hnl := hs.newsLen
  rw [← hs0] at hs
  refine vappC_ok (x := .sl sz es g) (ys := ys) hτ hσ ht hD hd hi hs0 hb0 hz hzm hx hnl hFy (fun hy0 a n cap hle => ?_) (fun hy0 g n cap cur e1 hg hroom hfit _ => app_room (P := P) (ty := ty) hd hi hg hs hroom hfit)
    (fun base sLen sCap olds hold hgw hle h63 _ hfit => run_append_grow_src (P := P) C.w t tx ty e i zz hd hi hz base sLen sCap olds hold cy ys.length news hs hgw h63 hfit) h
  subst hy0
  have hn0 : news = [] := List.eq_nil_of_length_eq_zero (by simpa using hnl)
  subst hn0
  exact app_nothing (P := P) (ty := ty) hd hi hs hle

/-- Zeros put behind (append of a make, which is handed the number). -/
def vappZ (τ : TypeId → Option TyD) (σ : St) (obj : Bool) (t : TypeId) (x : V) (n : Int) : Option (V × St) :=
  match τ t with
  | some ⟨.sl e, _, _, _⟩ => match τ e with
    | some D => match zeroElem D with
      | some ze => if 0 ≤ n ∧ n ≤ 9223372036854775807 then vappC σ obj e D x (List.replicate n.toNat ze) else none
      | none => none
    | none => none
  | _ => none

theorem vappZ_ok (hτ : TyOk P τ) (hσ : StRel C σ) {obj : Bool} {t tx ty : TypeId} {x v : V} {cx : Value} {σ' : St} {k kn : IntKind} {n : Int} (hx : VRel C x cx) (hk : P.underlying tx = some (.int kn))
    (h : vappZ τ σ obj t x n = some (v, σ')) : ∃ C', Ext' C C' ∧ StRel C' σ' ∧ ∃ c, VRel C' v c ∧ (Builtin.append_ #[t, tx] ty #[cx, .int k n]).run P C.w = .ok c C'.w := by
  unfold vappZ at h
  split at h <;> first | (cases h; done) | skip
  rename_i e s b z ht
  split at h <;> first | (cases h; done) | skip
  rename_i D hD
  split at h <;> first | (cases h; done) | skip
  rename_i ze hze
  split at h <;> first | (cases h; done) | skip
  rename_i hn
  obtain ⟨d, hd, he⟩ := (hτ t _ ht).underlying
  obtain rfl := tdOf_sl he
  obtain ⟨i, zz, hi, hs0, hb0, hz, hzm⟩ := (hτ _ _ hD).info
  have hzs : zz.cells.size = D.sz := by rw [← (hτ _ _ hD).len, ← hzm]; simp
  have hF := flat_zero (hτ _ _ hD) hzm hze C.w C.S n.toNat
  have hmz : madeCells zz.cells (n.toNat * D.sz) = Builtin.zeroCells zz.cells n.toNat := by unfold madeCells Builtin.zeroCells; rw [hzs]
  rw [hmz] at hF
  obtain ⟨m, rfl⟩ : ∃ m : Nat, n = (m : Int) := ⟨n.toNat, by omega⟩
  simp only [Int.toNat_natCast] at h hF hmz
  have hw : IntKind.i64.wrap (m : Int) = m := by rw [IntKind.wrap_i64]; omega
  have hneg : ¬ ((m : Int) < 0) := by omega
  have hlen : (Builtin.zeroCells zz.cells m).toList.length = m * D.sz := by rw [Array.length_toList, size_zeroCells, hzs]
  have D0 : 0 < D.sz := by
    unfold vappC at h
    split at h <;> first | (cases h; done) | skip
    split at h <;> first | (cases h; done) | skip
    rename_i hc
    exact hc.2.1
  refine vappC_ok (ys := List.replicate m ze) (news := (Builtin.zeroCells zz.cells m).toList) hτ hσ ht hD hd hi hs0 hb0 hz hzm hx (by rw [hlen]; simp) hF (fun hy0 a n cap hle => ?_) (fun hy0 g n cap cur e1 hg hroom hfit hbb => ?_) (fun base sLen sCap olds hold hgw hle h63 hbb hfit => ?_) h
  · have hm0 : m = 0 := by simpa using hy0
    subst hm0
    have hw0 : IntKind.i64.wrap 0 = 0 := by rw [IntKind.wrap_i64]; omega
    cases a <;> simp [Builtin.append_, run_underlying hd, run_underlying hk, sizeOf, typeInfo, hi, asInt, asIntOf, hw0, hle, storeCells]
  · have hm0 : m ≠ 0 := by simpa using hy0
    simp only [List.length_replicate] at hroom hfit hbb ⊢
    have h48 : ¬ (281474976710656 < (m : Int) * (i.bytes : Int)) := by
      rw [← Int.natCast_mul]
      have : m * i.bytes ≤ (n + m) * i.bytes := Nat.mul_le_mul_right _ (Nat.le_add_left _ _)
      omega
    have hns : ¬ (m * i.size = 0) := Nat.mul_ne_zero hm0 (by omega)
    have hst := run_storeCells_at P g (n * i.size) e1 (Builtin.zeroCells zz.cells m).toList 0 cur C.w hg (by simpa using hfit) hF.one
    simp only [Nat.add_zero] at hst
    simp [Builtin.append_, run_underlying hd, run_underlying hk, sizeOf, typeInfo, zeroValue, hi, hz, asInt, asIntOf, hw, hneg, hns, h48, hroom, Addr.add_lit, hst]
  · simp only [List.length_replicate] at hgw h63 hbb hfit ⊢
    have hm0 : 0 < m := by omega
    have h48 : m * i.bytes ≤ 281474976710656 := by
      have : m * i.bytes ≤ (sLen + m) * i.bytes := Nat.mul_le_mul_right _ (Nat.le_add_left _ _)
      omega
    have hrun := Lib.run_append_grow_zeros (P := P) C.w t tx ty e i zz k kn hd hk hi hz base sLen sCap olds hold m hm0 (by omega) hgw h63 h48 hfit
    rw [hrun]
    have ha : (olds ++ (Builtin.zeroCells zz.cells m).toList).toArray = olds.toArray ++ Builtin.zeroCells zz.cells m := by
      apply Array.ext'
      simp
    rw [ha]
end
end Go.Vx
