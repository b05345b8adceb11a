/- What each operation does to values without memory: copy; all operations in one function. -/
import Derived.Test.YtlcdehedojkgoaaDoorV9
namespace Go.Vx
open Go.RowKit Go.Fl
set_option linter.unusedVariables false
set_option linter.unusedSimpArgs false
section
variable {P : Program} {C : Cx} {σ : St} {τ : TypeId → Option TyD}

/-- copy onto an object's cells. -/
def vcopy (τ : TypeId → Option TyD) (σ : St) (dt : TypeId) (x y : V) : Option (V × St) :=
  match τ dt with
  | some ⟨.sl e, _, _, _⟩ => match τ e with
    | some D => if D.sz = 1 then match x with
      | .osl o off len _ => match σ.h o with
        | some (.cells cs) => match y with
          | .s _ => none
          | y => match vsrc τ σ D y with
            | some ys => if off + len ≤ cs.length ∧ ys.all V.one = true then some (.i .i64 (min ys.length len : Nat), σ.put o (cs.take off ++ ys.take (min ys.length len) ++ cs.drop (off + min ys.length len))) else none
            | none => none
        | _ => none
      | _ => none
      else none
    | none => none
  | _ => none

theorem vsrc_rd (hσ : StRel C σ) {D : TyD} {y : V} {cy : Value} {ys : List V} (hy : VRel C y cy) (hns : ∀ l, y ≠ .s l) (h : vsrc τ σ D y = some ys) :
    ∃ a cap news, cy = .slice a ys.length cap ∧ Rd C.w D.sz a ys.length cap news ∧ Flat C.w C.S D.sz ys news := by
  have hcopy := h
  unfold vsrc at h
  split at h <;> first | (cases h; done) | skip
  · split at h <;> first | (cases h; done) | (simp only [Option.some.injEq] at h; subst h)
    rename_i hsz
    obtain ⟨a, cap, xs, rfl, hr, hF, _⟩ := Flat.of_rd hy.inv_sl
    obtain ⟨h1, h2⟩ := flat_any hr hF hsz
    exact ⟨a, cap, xs, rfl, h1, h2⟩
  · rename_i l; exact absurd rfl (hns l)
  · rename_i o off len cap
    split at h <;> first | (cases h; done) | skip
    rename_i h1
    split at h <;> first | (cases h; done) | skip
    rename_i cs hcs
    split at h <;> first | (cases h; done) | skip
    rename_i hle
    obtain ⟨h1, _⟩ := h1
    obtain ⟨g, cur, e, hg, hh, hl, hcell⟩ := hσ.cells hcs
    obtain ⟨x, cp, rfl, hm, hlc, hcp, hmax, hx⟩ := hy.inv_osl
    have hxg := hx g hg
    subst hxg
    obtain ⟨hl', hget⟩ := stripL_ok h
    have hlen : ys.length = len := by rw [hl']; simp; omega
    have key : ∀ (j : Nat) u, ys[j]? = some u → ∃ c, cur[off + j]? = some c ∧ C.w.cell? ⟨g, off + j, none⟩ = some c ∧ PRel C.w C.S u c ∧ u.one = true := fun j u hu => by
      obtain ⟨v, hv, hs⟩ := hget j u hu
      rw [List.getElem?_take] at hv
      split at hv
      · rw [List.getElem?_drop] at hv
        obtain ⟨a1, c, a2, a3, a4, _⟩ := hcell _ v hv
        exact ⟨c, a2, a3, strip1_ok a4 hs⟩
      · cases hv
    have hcl : ∀ j, j < len → (cur.toList.drop off)[j]? = cur[off + j]? := fun j _ => by rw [List.getElem?_drop, Array.getElem?_toList]
    have hnl : ((cur.toList.drop off).take len).length = len := by simp; omega
    rw [h1, hlen]
    refine ⟨some ⟨g, off, none⟩, cp, (cur.toList.drop off).take len, rfl, ⟨by rw [hnl]; simp, by omega, hmax, (fun h => by cases h), fun y hy' j u hu => ?_⟩, ⟨by rw [hnl, hlen]; simp, fun j v hj => ?_, fun j v k u hj hk => ?_, fun u hu => ?_⟩⟩
    · simp only [Option.some.injEq] at hy'
      subst hy'
      rw [List.getElem?_take] at hu
      split at hu
      · rename_i hj
        rw [hcl j hj] at hu
        rw [addr_add, cell_of_row C.w g _ cur e (0, 0) hh]; exact hu
      · cases hu
    · obtain ⟨c, _, _, _, a4⟩ := key j v hj
      rw [cells_one a4]; rfl
    · obtain ⟨c, a1, _, a3, a4⟩ := key j v hj
      rw [cells_one a4] at hk
      cases k with
      | zero =>
        simp only [List.getElem?_cons_zero, Option.some.injEq] at hk
        subst hk
        have hjl : j < len := by rw [← hlen]; exact (List.getElem?_eq_some_iff.1 hj).1
        exact ⟨a4, c, by rw [List.getElem?_take, if_pos (by omega), Nat.mul_one, Nat.add_zero, hcl j hjl]; exact a1, a3⟩
      | succ k => simp at hk
    · obtain ⟨j, hj⟩ := List.mem_iff_getElem?.1 hu
      rw [List.getElem?_take] at hj
      split at hj
      · rename_i hjl
        rw [hcl j hjl] at hj
        have hy' : ys[j]? = some (ys[j]'(by omega)) := List.getElem?_eq_getElem (by omega)
        obtain ⟨c, a1, _, a3, a4⟩ := key j _ hy'
        rw [hj] at a1; cases a1
        exact a3.oneCell a4
      · cases hj

theorem vcopy_ok (hτ : TyOk P τ) (hσ : StRel C σ) {dt tx ty : TypeId} {x y v : V} {cx cy : Value} {σ' : St} (hx : VRel C x cx) (hy : VRel C y cy) (h : vcopy τ σ dt x y = some (v, σ')) :
    ∃ C', Ext' C C' ∧ StRel C' σ' ∧ ∃ c, VRel C' v c ∧ (Builtin.copy_ #[dt, tx] ty #[cx, cy]).run P C.w = .ok c C'.w := by
  unfold vcopy at h
  split at h <;> first | (cases h; done) | skip
  rename_i e s b z ht
  split at h <;> first | (cases h; done) | skip
  rename_i D hD
  split at h <;> first | (cases h; done) | skip
  rename_i hsz
  split at h <;> first | (cases h; done) | skip
  rename_i o off len cap
  split at h <;> first | (cases h; done) | skip
  rename_i cs hcs
  split at h <;> first | (cases h; done) | skip
  rename_i hns
  split at h <;> first | (cases h; done) | skip
  rename_i ys hys
  split at h <;> first | (cases h; done) | skip
  rename_i hle
  obtain ⟨hle, hall⟩ := hle
  simp only [Option.some.injEq, Prod.mk.injEq] at h
  obtain ⟨rfl, rfl⟩ := h
  obtain ⟨d, hd, he⟩ := (hτ _ _ ht).underlying
  obtain rfl := tdOf_sl he
  obtain ⟨a, cp2, news, rfl, hr, hF⟩ := vsrc_rd hσ hy (fun l h => hns l h) hys
  obtain ⟨g, cur, e1, hg, hh, hl, hcell⟩ := hσ.cells hcs
  obtain ⟨q, cp, rfl, hm, hlc, hcp, hmax, hq⟩ := hx.inv_osl
  have hqg := hq g hg
  subst hqg
  rw [hsz] at hr hF
  obtain ⟨n, hn⟩ : ∃ n, min ys.length len = n := ⟨_, rfl⟩
  have hn1 : n ≤ ys.length := by omega
  have hn2 : n ≤ len := by omega
  rw [hn]
  have hnews := hr.len
  rw [Nat.mul_one] at hnews
  have htl : (news.take n).length = n := by simp; omega
  have hfirst : (Builtin.firstCells 1 n (.slice a ys.length cp2)).run P C.w = .ok (news.take n).toArray C.w := by
    cases a with
    | some x => exact run_firstCells_some C.w 1 n x ys.length cp2 (news.take n) (by rw [htl, Nat.mul_one]) (fun j u hu => by
        rw [List.getElem?_take] at hu
        split at hu
        · exact hr.cell x rfl j u hu
        · cases hu)
    | none =>
      have := hr.nul rfl
      have h0 : ys.length = 0 := by have := hr.le; omega
      have : n = 0 := by omega
      subst this
      rw [h0]
      exact run_firstCells_none C.w 1 0 0 cp2
  have hone : ∀ u ∈ news.take n, u.oneCell' = true := fun u hu => hF.one u (List.mem_of_mem_take hu)
  have hst := run_storeCells_at P g off e1 (news.take n) 0 cur C.w hh (by rw [htl]; omega) hone
  simp only [Nat.add_zero] at hst
  have hrun : (Builtin.copy_ #[dt, tx] ty #[.slice (some ⟨g, off, none⟩) len cp, .slice a ys.length cp2]).run P C.w = .ok (goInt n) (C.w.setRow g (cur.toList.take off ++ news.take n ++ cur.toList.drop (off + (news.take n).length)).toArray) := by
    have hn' : Nat.min ys.length len = n := hn
    simp [Builtin.copy_, run_underlying hd, Builtin.lenOf, hn', (hτ _ _ hD).sizeOf, hsz, hfirst, hst]
  obtain ⟨s1, s2⟩ := hσ.setObj o g hg (cs.take off ++ ys.take n ++ cs.drop (off + n)) cur (cur.toList.take off ++ news.take n ++ cur.toList.drop (off + (news.take n).length)).toArray e1 hh (by simp; omega) (fun j u hj => by
    have hyl : (ys.take n).length = n := by simp; omega
    have hsp : off + n = off + (ys.take n).length := by rw [hyl]
    rw [hsp] at hj
    have := splice_rel (C := C) (cs := cs) (vs := ys.take n) (cur := cur.toList) (us := news.take n) (off := off) (by rw [hyl]; omega) (by simpa using hl) (by rw [htl, hyl]) (fun k u hk => by
      obtain ⟨a1, c, a2, a3, a4, a5⟩ := hcell k u hk
      exact ⟨a1, c, (Array.getElem?_toList).trans a2, a4, a5⟩) (fun k u hk => by
      rw [List.getElem?_take] at hk
      split at hk
      · rename_i hkn
        have huo : u.one = true := List.all_eq_true.1 hall u (List.mem_of_getElem? hk)
        obtain ⟨a1, dd, a2, a3⟩ := hF.rel k u 0 u hk (by rw [cells_one huo]; rfl)
        simp only [Nat.mul_one, Nat.add_zero] at a2
        exact ⟨huo, dd, by rw [List.getElem?_take, if_pos hkn]; exact a2, .pure _ _ a3, a3.oneCell huo⟩
      · cases hk) j u hj
    simpa using this)
  exact ⟨_, s1, s2, _, .i _ _, hrun⟩

@[simp] theorem bv_all (l : List UInt8) : (bv l).all V.one = true := List.all_eq_true.2 fun x hx => by
  obtain ⟨c, _, rfl⟩ := List.mem_map.1 hx; rfl

def vindex (τ : TypeId → Option TyD) (t : TypeId) (x i : V) : Option V :=
  match τ t, x, i with
  | some ⟨.arr len e, _, _, _⟩, .agg cs, .i _ n => if 0 ≤ n ∧ n < len then match τ e with
      | some D => vpart D cs (n.toNat * D.sz)
      | none => none
    else none
  | some ⟨.str, _, _, _⟩, .s l, .i _ n => if 0 ≤ n then match l[n.toNat]? with
      | some c => some (.i .u8 (c.toNat : Int))
      | none => none
    else none
  | _, _, _ => none

theorem vindex_ok (hτ : TyOk P τ) {t : TypeId} {x i v : V} {cx ci : Value} (hx : VRel C x cx) (hi : VRel C i ci) (h : vindex τ t x i = some v) : ∃ c, (Instr.index t cx ci).run P C.w = .ok c C.w ∧ VRel C v c := by
  unfold vindex at h
  split at h <;> first | (cases h; done) | skip
  · rename_i len e s b z cs k n ht
    split at h <;> first | (cases h; done) | skip
    rename_i hn
    split at h <;> first | (cases h; done) | skip
    rename_i D hD
    obtain rfl := hi.inv_i
    obtain ⟨ds, rfl, h1, hl, hr⟩ := hx.inv_agg
    obtain ⟨d, hd, he⟩ := (hτ _ _ ht).underlying
    obtain rfl := tdOf_arr he
    obtain ⟨c, hc, hv⟩ := part_run (hτ _ _ hD) h1 (by omega) hr h
    exact ⟨c, by simp [Instr.index, asIntOf, run_underlying hd, hn, (hτ _ _ hD).sizeOf, hc], hv⟩
  · rename_i s b z l k n ht
    split at h <;> first | (cases h; done) | skip
    rename_i hn
    split at h <;> first | (cases h; done) | (simp only [Option.some.injEq] at h; subst h)
    rename_i c hc
    obtain rfl := hi.inv_i
    obtain rfl := hx.inv_s
    obtain ⟨d, hd, he⟩ := (hτ _ _ ht).underlying
    obtain rfl := tdOf_str he
    have hb : (bstr l)[n.toNat]? = some c := by
      have hlt := (List.getElem?_eq_some_iff.1 hc).1
      have hlt' : n.toNat < (bstr l).size := by rw [bstr_size]; exact hlt
      rw [getElem?_pos (bstr l) n.toNat hlt']
      congr 1
      exact (List.getElem?_eq_some_iff.1 hc).2
    exact ⟨_, by simp [Instr.index, asIntOf, run_underlying hd, hn, hb], .i _ _⟩

theorem run_equalIn_arr {P : Program} (d : Nat) (t e : TypeId) (k : IntKind) (a b : List Int) (hl : b.length = a.length) (xs ys : Array Value) (w : World) (ht : P.underlying t = some (.array a.length e)) (he : P.underlying e = some (.int k)) (hs : ∀ w, (sizeOf e).run P w = .ok 1 w)
    (hx : ∀ i : Nat, xs[i]? = (a[i]?).map (Value.int k)) (hy : ∀ i : Nat, ys[i]? = (b[i]?).map (Value.int k)) (ha : ∀ w, (isAgg e).run P w = .ok false w) : (Op.equalIn (d + 2) t (.agg xs) (.agg ys)).run P w = .ok (a == b) w := by
  rw [Op.equalIn]
  simp only [Sem.run_bind, run_underlying ht, Result.andThen_ok, hs, Std.Legacy.Range.forIn_eq_forIn_range']
  have key : ∀ (m j : Nat), j + m = a.length → (forIn (m := Sem) (List.range' j m) ((none : Option Bool), ()) fun i __s => do
            let x ← part e xs (i * 1)
            let y ← part e ys (i * 1)
            let r ← Op.equalIn (d + 1) e x y
            if (!r) = true then pure (ForInStep.done (some false, ())) else pure (ForInStep.yield (none, ()))).run P w = .ok (if a.drop j = b.drop j then (none, ()) else (some false, ())) w := by
    intro m
    induction m with
    | zero =>
      intro j hj
      rw [if_pos (by rw [List.drop_eq_nil_of_le (by omega), List.drop_eq_nil_of_le (by omega)])]
      simp
    | succ m ih =>
      intro j hj
      have hja : j < a.length := by omega
      have hjb : j < b.length := by omega
      have e1 : ∀ w, (part e xs (j * 1)).run P w = .ok (.int k a[j]) w := fun w => by
        simp [part, ha, hx, hja]
      have e2 : ∀ w, (part e ys (j * 1)).run P w = .ok (.int k b[j]) w := fun w => by
        simp [part, ha, hy, hjb]
      have e3 := run_equalIn_int (P := P) w d e k k a[j] b[j] he
      simp only [List.range'_succ, List.forIn_cons, Sem.run_bind, e1, e2, Result.andThen_ok, e3]
      rw [List.drop_eq_getElem_cons hja, List.drop_eq_getElem_cons hjb]
      by_cases h : a[j] = b[j]
      · have hb : (a[j] == b[j]) = true := by simp [h]
        simp only [hb, Bool.not_true, Bool.false_eq_true, if_false, Sem.run_pure, Result.andThen_ok]
        rw [ih (j + 1) (by omega)]
        rw [h]
        simp only [List.cons.injEq, true_and]
      · have hb : (a[j] == b[j]) = false := by simp [h]
        simp only [hb, Bool.not_false, if_true, Sem.run_pure, Result.andThen_ok]
        rw [if_neg (by simp only [List.cons.injEq, h, false_and, not_false_eq_true])]
  have hk := key a.length 0 (by omega)
  simp only [List.drop_zero] at hk
  have hz : ([:a.length] : Std.Legacy.Range).size = a.length := by simp [Std.Legacy.Range.size]
  rw [hz, hk]
  by_cases h : a = b
  · subst h; simp
  · have hb : (a == b) = false := by simp [h]
    simp [h, hb]

/-- Arrays of bytes: are they the same? -/
def vagg (τ : TypeId → Option TyD) (op : BinOp) (D : TyD) (x y : V) : Option V :=
  match D.d, x, y with
  | .arr n e, .agg cs, .agg ds => match τ e with
    | some ⟨.int .u8, sz, _, _⟩ => match unbv cs, unbv ds with
      | some a, some b => if sz = 1 ∧ cs.length = n ∧ ds.length = n then (match op with
        | .eql => some (.b (a == b))
        | .neq => some (.b (a != b))
        | _ => none) else none
      | _, _ => none
    | _ => none
  | _, _, _ => none
/-- Two parts of structs: are they the same? -/
def veq1 (τ : TypeId → Option TyD) (D : TyD) (x y : V) : Option Bool :=
  match x, y with
  | .i k a, .i k' b => match D.d with
    | .int _ => if k = k' then some (a == b) else none
    | _ => none
  | .agg cs, .agg ds => match vagg τ .eql D (.agg cs) (.agg ds) with
    | some (.b r) => some r
    | _ => none
  | _, _ => none
def veqF (τ : TypeId → Option TyD) (cs ds : List V) : List (TypeId × Nat) → Option Bool
  | [] => some true
  | (ty, off) :: fs => match τ ty with
    | some D => match vpart D cs off, vpart D ds off with
      | some u, some v => match veq1 τ D u v, veqF τ cs ds fs with
        | some a, some b => some (a && b)
        | _, _ => none
      | _, _ => none
    | none => none
def vbinX (τ : TypeId → Option TyD) (op : BinOp) (D : TyD) (x y : V) : Option V := match x with
  | .agg cs => match D.d with
    | .st fs => match y with
      | .agg ds => match veqF τ cs ds fs with
        | some b => match op with
          | .eql => some (.b b)
          | .neq => some (.b (!b))
          | _ => none
        | none => none
      | _ => none
    | _ => vagg τ op D (.agg cs) y
  | x => vbin op D.d x y
theorem bytes_cells {C : Cx} {cs : List V} {a : List UInt8} {cx : Value} (hx : VRel C (.agg cs) cx) (h : unbv cs = some a) : ∃ xs : Array Value, cx = .agg xs ∧ ∀ i : Nat, xs[i]? = ((a.map fun c => (c.toNat : Int))[i]?).map (Value.int .u8) := by
  obtain ⟨xs, rfl, _, hl, hr⟩ := hx.inv_agg
  have hcs := unbv_some h
  subst hcs
  refine ⟨xs, rfl, fun i => ?_⟩
  rw [List.getElem?_map]
  by_cases hi : i < a.length
  · have h1 : (bv a)[i]? = some (.i .u8 (a[i].toNat : Int)) := by simp [bv, hi]
    have hxi : i < xs.size := by rw [hl]; simpa using hi
    have h2 : xs[i]? = some xs[i] := Array.getElem?_eq_getElem hxi
    have := (hr i _ _ h1 h2).inv_i
    rw [h2, this, List.getElem?_eq_getElem hi]; rfl
  · rw [List.getElem?_eq_none (by omega), Array.getElem?_eq_none (by rw [hl]; simp; omega)]; rfl
theorem vagg_run {P : Program} {C : Cx} {τ : TypeId → Option TyD} (hτ : TyOk P τ) {op : BinOp} {t : TypeId} {D : TyD} (hD : τ t = some D) {cs : List V} {y : V} {v : V} {cx cy : Value} (hx : VRel C (.agg cs) cx) (hy : VRel C y cy) (h : vagg τ op D (.agg cs) y = some v) :
    ∃ (r : Bool) (xs ys : Array Value), cx = .agg xs ∧ cy = .agg ys ∧ P.eqGuardType P.depth t = false ∧ (∀ d, (Op.equalIn (d + 2) t cx cy).run P C.w = .ok r C.w) ∧ ((op = .eql ∧ v = .b r) ∨ (op = .neq ∧ v = .b (!r))) := by
  unfold vagg at h
  split at h <;> first | (cases h; done) | skip
  rename_i n e cs' ds hd hcs
  cases hcs
  split at h <;> first | (cases h; done) | skip
  rename_i sz bys z he
  split at h <;> first | (cases h; done) | skip
  rename_i a b hua hub
  split at h <;> first | (cases h; done) | skip
  rename_i hsz
  obtain ⟨rfl, hl1, hl2⟩ := hsz
  obtain ⟨u, hu, hue⟩ := (hτ _ _ hD).underlying
  rw [hd] at hue
  obtain rfl := tdOf_arr hue
  obtain ⟨u', hu', hue'⟩ := (hτ _ _ he).underlying
  obtain rfl := tdOf_int hue'
  obtain ⟨xs, rfl, hxs⟩ := bytes_cells hx hua
  obtain ⟨ys, rfl, hys⟩ := bytes_cells hy hub
  have hla : a.length = n := by rw [unbv_some hua] at hl1; simpa using hl1
  have hlb : b.length = n := by rw [unbv_some hub] at hl2; simpa using hl2
  have hg : P.eqGuardType P.depth t = false := by
    unfold Program.depth
    simp only [Program.eqGuardType, hu, hu']
  have hq := fun d => run_equalIn_arr (P := P) d t e .u8 (a.map fun c => (c.toNat : Int)) (b.map fun c => (c.toNat : Int)) (by simp [hla, hlb]) xs ys C.w (by simpa [hla] using hu) hu' (fun w => (hτ _ _ he).sizeOf w) hxs hys (fun w => (hτ _ _ he).isAgg w)
  have hin : ((a.map fun c => (c.toNat : Int)) == (b.map fun c => (c.toNat : Int))) = (a == b) := by
    have hinj : ∀ a b : List UInt8, (a.map fun c => (c.toNat : Int)) = (b.map fun c => (c.toNat : Int)) → a = b := by
      intro a
      induction a with
      | nil => intro b hb; cases b <;> simp at hb ⊢
      | cons c a ih =>
        intro b hb
        cases b with
        | nil => simp at hb
        | cons c' b =>
          simp only [List.map_cons, List.cons.injEq] at hb
          have : c = c' := UInt8.toNat_inj.1 (by omega)
          rw [this, ih b hb.2]
    by_cases hab : a = b
    · subst hab; simp
    · have h1 : (a == b) = false := by simp [hab]
      have h2 : ¬ (a.map fun c => (c.toNat : Int)) = (b.map fun c => (c.toNat : Int)) := fun h => hab (hinj a b h)
      rw [h1]; simpa using h2
  have hq := fun d => (hq d).trans (by rw [hin])
  split at h <;> first | (cases h; done) | skip
  · simp only [Option.some.injEq] at h; subst h
    exact ⟨_, xs, ys, rfl, rfl, hg, hq, .inl ⟨rfl, rfl⟩⟩
  · simp only [Option.some.injEq] at h; subst h
    exact ⟨_, xs, ys, rfl, rfl, hg, hq, .inr ⟨rfl, rfl⟩⟩

theorem veq1_run {P : Program} {C : Cx} {τ : TypeId → Option TyD} (hτ : TyOk P τ) {t : TypeId} {D : TyD} (hD : τ t = some D) {x y : V} {r : Bool} {cx cy : Value} (hx : VRel C x cx) (hy : VRel C y cy) (h : veq1 τ D x y = some r) (d : Nat) : (Op.equalIn (d + 2) t cx cy).run P C.w = .ok r C.w := by
  unfold veq1 at h
  split at h <;> first | (cases h; done) | skip
  · split at h <;> first | (cases h; done) | skip
    rename_i kk hd
    split at h <;> first | (cases h; done) | skip
    rename_i hk
    subst hk
    simp only [Option.some.injEq] at h; subst h
    obtain rfl := hx.inv_i
    obtain rfl := hy.inv_i
    obtain ⟨u, hu, hue⟩ := (hτ _ _ hD).underlying
    rw [hd] at hue
    obtain rfl := tdOf_int hue
    exact run_equalIn_int C.w (d + 1) t _ _ _ _ hu
  · split at h <;> first | (cases h; done) | skip
    rename_i r' hr
    simp only [Option.some.injEq] at h; subst h
    obtain ⟨r2, xs, ys, rfl, rfl, _, hq, hv⟩ := vagg_run hτ hD hx hy hr
    rcases hv with ⟨_, hv⟩ | ⟨hv, _⟩
    · simp only [V.b.injEq] at hv
      rw [hq, hv]
    · cases hv

theorem veq1_flat {P : Program} {τ : TypeId → Option TyD} (hτ : TyOk P τ) {t : TypeId} {D : TyD} (hD : τ t = some D) {x y : V} {r : Bool} (h : veq1 τ D x y = some r) : flatEq P t = true := by
  unfold veq1 at h
  unfold flatEq
  split at h <;> first | (cases h; done) | skip
  · split at h <;> first | (cases h; done) | skip
    rename_i kk hd
    obtain ⟨u, hu, hue⟩ := (hτ _ _ hD).underlying
    rw [hd] at hue
    obtain rfl := tdOf_int hue
    rw [hu]
  · split at h <;> first | (cases h; done) | skip
    rename_i r' hr
    unfold vagg at hr
    split at hr <;> first | (cases hr; done) | skip
    rename_i n e cs' ds hd hcs hds
    split at hr <;> first | (cases hr; done) | skip
    rename_i sz bys z he
    obtain ⟨u, hu, hue⟩ := (hτ _ _ hD).underlying
    rw [hd] at hue
    obtain rfl := tdOf_arr hue
    obtain ⟨u', hu', hue'⟩ := (hτ _ _ he).underlying
    obtain rfl := tdOf_int hue'
    simp only [hu, hu']
theorem veqF_flat {P : Program} {τ : TypeId → Option TyD} (hτ : TyOk P τ) {cs ds : List V} : ∀ (gs : List Field) (r : Bool), veqF τ cs ds (gs.map fun f => (f.type, f.offset)) = some r → ∀ f ∈ gs, flatEq P f.type = true
  | [], _, _, f, hf => by cases hf
  | g :: gs, r, h, f, hf => by
    simp only [List.map_cons, veqF] at h
    split at h <;> first | (cases h; done) | skip
    rename_i D hD
    split at h <;> first | (cases h; done) | skip
    rename_i u v hu hv
    split at h <;> first | (cases h; done) | skip
    rename_i a b ha hb
    rcases List.mem_cons.1 hf with rfl | hf
    · exact veq1_flat hτ hD ha
    · exact veqF_flat hτ gs b hb f hf

theorem veqF_run {P : Program} {C : Cx} {τ : TypeId → Option TyD} (hτ : TyOk P τ) {cs ds : List V} {xs ys : Array Value} (h1 : cs.all V.one = true) (hl : cs.length ≤ xs.size) (hr : ∀ (j : Nat) v d, cs[j]? = some v → xs[j]? = some d → VRel C v d)
    (h1' : ds.all V.one = true) (hl' : ds.length ≤ ys.size) (hr' : ∀ (j : Nat) v d, ds[j]? = some v → ys[j]? = some d → VRel C v d) (d : Nat) :
    ∀ (gs : List Field) (r : Bool), (∀ f ∈ gs, f.name ≠ "_") → veqF τ cs ds (gs.map fun f => (f.type, f.offset)) = some r → (Op.eqFields (d + 2) xs ys gs).run P C.w = .ok r C.w
  | [], r, _, h => by
    simp only [List.map_nil, veqF, Option.some.injEq] at h
    subst h; rfl
  | f :: gs, r, hn, h => by
    simp only [List.map_cons, veqF] at h
    split at h <;> first | (cases h; done) | skip
    rename_i D hD
    split at h <;> first | (cases h; done) | skip
    rename_i u v hu hv
    split at h <;> first | (cases h; done) | skip
    rename_i a b ha hb
    simp only [Option.some.injEq] at h; subst h
    obtain ⟨c, e1, e2⟩ := part_run (C := C) (hτ _ _ hD) h1 hl hr hu
    obtain ⟨c', e3, e4⟩ := part_run (C := C) (hτ _ _ hD) h1' hl' hr' hv
    have e5 := veq1_run hτ hD e2 e4 ha d
    have ih := veqF_run hτ h1 hl hr h1' hl' hr' d gs b (fun f hf => hn f (by simp [hf])) hb
    rw [Op.eqFields, if_pos (hn f (by simp))]
    simp only [Sem.run_bind, e1, e3, e5, Result.andThen_ok]
    cases a with
    | true => simp [ih]
    | false => simp

theorem vbinX_ok {P : Program} {C : Cx} {τ : TypeId → Option TyD} (hτ : TyOk P τ) {op : BinOp} {t : TypeId} {D : TyD} (hD : τ t = some D) {x y : V} {v : V} {cx cy : Value} (ox oy : Operand) (hx : VRel C x cx) (hy : VRel C y cy) (h : vbinX τ op D x y = some v) :
    ∃ c, (do eqGuard op t ox oy cx cy; binOp op t cx cy : Sem Value).run P C.w = .ok c C.w ∧ VRel C v c := by
  unfold vbinX at h
  split at h
  · rename_i cs
    split at h
    · rename_i fs hd
      split at h <;> first | (cases h; done) | skip
      rename_i ds
      split at h <;> first | (cases h; done) | skip
      rename_i b hb
      obtain ⟨u, hu, hue⟩ := (hτ _ _ hD).underlying
      rw [hd] at hue
      obtain ⟨gs, rfl, rfl⟩ : ∃ gs, u = .struct gs ∧ fs = gs.toList.map fun f => (f.type, f.offset) := by
        cases u <;> simp [tdOf] at hue
        exact ⟨_, rfl, hue.symm⟩
      obtain ⟨hh, hg, hn⟩ := (hτ _ _ hD).eqs gs hu (veqF_flat hτ gs.toList b hb)
      obtain ⟨xs, rfl, h1, hl, hr⟩ := hx.inv_agg
      obtain ⟨ys, rfl, h1', hl', hr'⟩ := hy.inv_agg
      have hfs : P.fieldsOf t = gs := by simp [Program.fieldsOf, hu]
      have hq : (Op.equalIn 10000 t (.agg xs) (.agg ys)).run P C.w = .ok b C.w := by
        rw [show (10000 : Nat) = 9999 + 1 from rfl, run_equalIn_agg C.w 9999 t xs ys (by rw [hfs]; exact hu) hh, hfs]
        exact veqF_run hτ h1 (by omega) hr h1' (by omega) hr' 9997 gs.toList b hn hb
      split at h <;> first | (cases h; done) | skip
      · simp only [Option.some.injEq] at h; subst h
        exact ⟨.bool b, by simp only [Sem.run_bind, run_eqGuard_agg C.w _ t ox oy xs ys hg, Result.andThen_ok, run_eql_struct, hq], .b _⟩
      · simp only [Option.some.injEq] at h; subst h
        exact ⟨.bool (!b), by simp only [Sem.run_bind, run_eqGuard_agg C.w _ t ox oy xs ys hg, Result.andThen_ok, run_neq_struct, hq], .b _⟩
    · obtain ⟨r, xs, ys, rfl, rfl, hg, hq, hv⟩ := vagg_run hτ hD hx hy h
      have hq := hq 9998
      rcases hv with ⟨rfl, rfl⟩ | ⟨rfl, rfl⟩
      · exact ⟨.bool r, by simp only [Sem.run_bind, run_eqGuard_agg C.w _ t ox oy xs ys hg, Result.andThen_ok, run_eql_struct, hq], .b _⟩
      · exact ⟨.bool (!r), by simp only [Sem.run_bind, run_eqGuard_agg C.w _ t ox oy xs ys hg, Result.andThen_ok, run_neq_struct, hq], .b _⟩
  · exact vbin_ok (hτ _ _ hD) ox oy hx hy h

/-! ### All operations -/
/-- A constant that is no value here counts as not known. -/
def toVs (c : Value) : V := match c with
  | .agg cs => if (cs.toList.map toV1).all V.one then .agg (cs.toList.map toV1) else .undef
  | c => toV1 c
def veval (fr : Nat → V) : Operand → V
  | .tmp t => fr t
  | .const v => toVs v
  | .func f => .fn f []
  | .global g => match gl g with
    | some cs => .rp cs
    | none => .undef

def vbuiltin (τ : TypeId → Option TyD) (σ : St) (obj : Bool) (b : Builtin) (ts : List TypeId) (xs : List V) : Option (V × St) :=
  match b, ts, xs with
  | .len, [t], [x] => match τ t with
    | some D => (vlen D.d x).map (·, σ)
    | none => none
  | .min, _, xs => (vmms false xs).map (·, σ)
  | .max, _, xs => (vmms true xs).map (·, σ)
  | .append, [t, tx], [x, y] => match τ tx, y with
    | some ⟨.str, _, _, _⟩, .s l => vapp τ σ obj t x (.s l)
    | some ⟨.sl _, _, _, _⟩, .s _ => none
    | some ⟨.sl _, _, _, _⟩, y => vapp τ σ obj t x y
    | some ⟨.int _, _, _, _⟩, .i _ n => vappZ τ σ obj t x n
    | _, _ => none
  | .copy, [t, tx], [x, y] => vcopy τ σ t x y
  | _, _, _ => none

/-- A part of a literal. -/
def vprt (fr : Nat → V) (p : Nat × Operand) : Nat × V := (p.1, veval fr p.2)

def vop (τ : TypeId → Option TyD) (hint : Nat → Bool) (fr : Nat → V) (σ : St) (o : Oper) : Option (V × St) :=
  match o.op with
  | .move x => some (veval fr x, σ)
  | .assign x => some (veval fr x, σ)
  | .pick c a b => match veval fr c with
    | .b true => some (veval fr a, σ)
    | .b false => some (veval fr b, σ)
    | _ => none
  | .alloc t => valloc τ σ t
  | .box t x => vbox τ σ t (veval fr x)
  | .build t parts => (vbuild τ t (parts.toList.map (vprt fr))).map (·, σ)
  | .buildSlice t len parts => (vblit τ t len (parts.toList.map (vprt fr))).map (·, σ)
  | .load t a => (vload τ σ t (veval fr a)).map (·, σ)
  | .store t a x => (vstore τ σ t (veval fr a) (veval fr x)).map (.undef, ·)
  | .nilCheck x => match veval fr x with
    | .ptr a b => some (.ptr a b, σ)
    | .rp cs => some (.rp cs, σ)
    | _ => none
  | .binOp op t x y _ => match τ t with
    | some D => (vbinX τ op D (veval fr x) (veval fr y)).map (·, σ)
    | none => none
  | .unOp op _ x => (vun op (veval fr x)).map (·, σ)
  | .convert s d x => (vconv τ s d (veval fr x)).map (·, σ)
  | .makeInterface t x => match τ t with
    | some D => match D.d with
      | .iface => none
      | .other => none
      | _ => some (.iface t (veval fr x), σ)
    | none => none
  | .makeFunc (.func f) first caps => if first.isEmpty then some (.fn f (caps.toList.map (veval fr)), σ) else none
  | .makeSlice t l c => vmake τ σ (o.dst.any hint) t (veval fr l) (veval fr c)
  | .slice t x lo hi mx => (vslice τ t (veval fr x) (lo.map (veval fr)) (hi.map (veval fr)) (mx.map (veval fr))).map (·, σ)
  | .fieldAddr t x f => (vfaddr τ t (veval fr x) f).map (·, σ)
  | .field t x f => (vfield τ t (veval fr x) f).map (·, σ)
  | .indexAddr t x i => (viaddr τ t (veval fr x) (veval fr i)).map (·, σ)
  | .index t x i => (vindex τ t (veval fr x) (veval fr i)).map (·, σ)
  | .extract x i => (vext (veval fr x) i).map (·, σ)
  | .call ⟨.builtin b, args, ts⟩ => vbuiltin τ σ (o.dst.any hint) b ts.toList (args.toList.map (veval fr))
  | _ => none

theorem toV1V (C : Cx) (c : Value) : VRel C (toV1 c) c := by
  by_cases h : toV1 c = .undef
  · rw [h]; exact .undef _
  · exact .pure _ _ (toV1_rel _ _ _ h)

theorem toVs_rel (C : Cx) (c : Value) : VRel C (toVs c) c := by
  unfold toVs
  split
  · rename_i cs
    split
    · rename_i h1
      refine .pure _ _ (.agg _ _ h1 (by simp) fun j v d hv hd => ?_)
      have hv0 := hv
      rw [List.getElem?_map] at hv
      obtain ⟨c, hc, rfl⟩ := Option.map_eq_some_iff.1 hv
      rw [Array.getElem?_toList, hd, Option.some.injEq] at hc
      subst hc
      refine toV1_rel _ _ _ fun hu => ?_
      have := List.all_eq_true.1 h1 _ (List.mem_of_getElem? hv0)
      rw [hu] at this; simp [V.one] at this
    · exact .undef _
  · exact toV1V C _

def FrRel (C : Cx) (fr : Nat → V) (a : Act) : Prop := ∀ t, VRel C (fr t) (a.tmps.getD t undef)
theorem FrRel.mono {C C' : Cx} {fr : Nat → V} {a : Act} (h : FrRel C fr a) (he : Ext C C') : FrRel C' fr a := fun t => (h t).mono he

theorem toV1_agg (c : Value) : ∀ cs, toV1 c ≠ .agg cs := by
  intro cs h
  unfold toV1 at h
  split at h <;> cases h


theorem veval_rel {σ : St} (hσ : StRel C σ) {fr : Nat → V} {a : Act} (hf : FrRel C fr a) (x : Operand) : VRel C (veval fr x) (a.eval x) := by
  cases x with
  | tmp t => exact hf t
  | const v => exact toVs_rel C v
  | func f => exact .pure _ _ (.fn f [] #[] rfl fun j v c h => by simp at h)
  | global g =>
    simp only [veval]
    split
    · rename_i cs hcs; exact hσ.glob g cs hcs
    · exact .undef _
end
end Go.Vx
