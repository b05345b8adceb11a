/- What each operation does to values without memory, more: loads and stores, new variables, made slices. -/
import Derived.Test.YtlcdehedojkgoaaDoorV7
namespace Go.Vx
open Go.RowKit Go.Fl
set_option linter.unusedVariables false
set_option linter.unusedSimpArgs false
section
variable {P : Program} {C : Cx} {σ : St} {τ : TypeId → Option TyD}

/-- Loading a value out of cells. -/
theorem load_cells {t : TypeId} {D : TyD} (hD : TyAt P t D) {y : Addr} {cs : List V} {off : Nat} {v : V} (hc : ∀ (k : Nat) u, cs[k]? = some u → u.one = true ∧ ∃ c, C.w.cell? (y.add k) = some c ∧ VRel C u c) (h : vpart D cs off = some v) :
    ∃ c, (loadVar t (y.add off)).run P C.w = .ok c C.w ∧ VRel C v c := by
  unfold vpart at h
  split at h
  · rename_i ha
    split at h
    · rename_i hle
      simp only [Option.some.injEq] at h; subst h
      have hget : ∀ j, j < D.sz → ∃ c, C.w.cell? (y.add (off + j)) = some c ∧ ∃ u, ((cs.drop off).take D.sz)[j]? = some u ∧ VRel C u c ∧ u.one = true := fun j hj => by
        have hk : cs[off + j]? = some (cs[off + j]'(by omega)) := List.getElem?_eq_getElem (by omega)
        obtain ⟨h1, c, h2, h3⟩ := hc _ _ hk
        exact ⟨c, h2, _, by rw [List.getElem?_take, if_pos hj, List.getElem?_drop]; exact hk, h3, h1⟩
      let f : Nat → Value := fun j => ((C.w.cell? (y.add (off + j)))).getD default
      have hf : ∀ j, j < D.sz → C.w.cell? ((y.add off).add j) = some (f j) := fun j hj => by
        obtain ⟨c, h1, _⟩ := hget j hj
        rw [add_add, h1]; simp [f, h1]
      have hl := run_loadCells (P := P) C.w (y.add off) D.sz f hf
      refine ⟨.agg (List.map f (List.range D.sz)).toArray, by simp only [loadVar, Sem.run_bind, hD.isAgg, hD.sizeOf, Result.andThen_ok, ha, if_true, hl, Sem.run_pure], ?_⟩
      refine .agg _ _ (List.all_eq_true.2 fun u hu => ?_) (by simp; omega) fun j u d hu hd => ?_
      · obtain ⟨j, hj⟩ := List.mem_iff_getElem?.1 hu
        have hj1 : j < D.sz := by have := (List.getElem?_eq_some_iff.1 hj).1; simp at this; omega
        obtain ⟨_, _, u', hu', _, h1⟩ := hget j hj1
        rw [hj] at hu'; cases hu'; exact h1
      · have hj1 : j < D.sz := by have := (List.getElem?_eq_some_iff.1 hu).1; simp at this; omega
        obtain ⟨c, h1, u', hu', h3, _⟩ := hget j hj1
        rw [hu] at hu'; cases hu'
        have : d = f j := by
          have := hd
          simp [hj1] at this
          exact this.symm
        rw [this]
        simpa [f, h1] using h3
    · cases h
  · rename_i ha
    obtain ⟨_, c, h2, h3⟩ := hc _ _ h
    exact ⟨c, by simp [loadVar, hD.isAgg, ha, h2], h3⟩

def vload (τ : TypeId → Option TyD) (σ : St) (t : TypeId) (x : V) : Option V :=
  match τ t with
  | some D => match x with
    | .ptr o off => match σ.h o with
      | some (.cells cs) => vpart D cs off
      | _ => none
    | .rp cs => vpart D cs 0
    | _ => none
  | none => none

theorem StRel.cells (hσ : StRel C σ) {o : Nat} {cs : List V} (h : σ.h o = some (.cells cs)) : ∃ g cur e, C.m o = .obj g ∧ C.w.heap[g]? = some (.cells cur e (0, 0)) ∧ cs.length ≤ cur.size ∧
    ∀ (k : Nat) u, cs[k]? = some u → u.one = true ∧ ∃ c, cur[k]? = some c ∧ C.w.cell? ⟨g, k, none⟩ = some c ∧ VRel C u c ∧ c.oneCell' = true := by
  obtain ⟨g, hg, cur, e, h1, h2, h3⟩ := hσ.obj o cs h
  refine ⟨g, cur, e, hg, h1, h2, fun k u hk => ?_⟩
  obtain ⟨ho, c, hc, hr, h1'⟩ := h3 k u hk
  exact ⟨ho, c, hc, by rw [cell_of_row C.w g k cur e (0, 0) h1, hc], hr, h1'⟩

theorem vload_ok (hτ : TyOk P τ) (hσ : StRel C σ) {t : TypeId} {x v : V} {cx : Value} (hx : VRel C x cx) (h : vload τ σ t x = some v) : ∃ c, (Instr.loadAt t cx).run P C.w = .ok c C.w ∧ VRel C v c := by
  unfold vload at h
  split at h <;> first | (cases h; done) | skip
  rename_i D hD
  split at h <;> first | (cases h; done) | skip
  · rename_i o off
    split at h <;> first | (cases h; done) | skip
    rename_i cs hcs
    obtain ⟨g, cur, e, hg, hh, hl, hc⟩ := hσ.cells hcs
    obtain ⟨y, rfl, hm, hy⟩ := hx.inv_ptr
    obtain ⟨c, h1, h2⟩ := load_cells (C := C) (hτ _ _ hD) (y := ⟨g, 0, none⟩) (fun k u hk => by
      obtain ⟨a1, c, _, a3, a4, _⟩ := hc k u hk
      exact ⟨a1, c, by rw [addr_add, Nat.zero_add]; exact a3, a4⟩) h
    rw [addr_add, Nat.zero_add, ← hy g hg] at h1
    exact ⟨c, by simpa [Instr.loadAt, Instr.sureAddr] using h1, h2⟩
  · have hp := hx.inv_rp
    obtain ⟨y, rfl⟩ := hp.inv_rp
    cases hp with
    | rp _ _ cv hc hr =>
      obtain ⟨c, h1, h2⟩ := load_cells (C := C) (hτ _ _ hD) (y := y) (fun k u hk => ⟨(hc k u hk).1, _, (hc k u hk).2.2, .pure _ _ (hr k u hk)⟩) h
      rw [show y.add 0 = y by simp [Addr.add]] at h1
      exact ⟨c, by simpa [Instr.loadAt, Instr.sureAddr] using h1, h2⟩

def St.new (σ : St) (cs : List V) : St := ⟨upd σ.h σ.n (some (.cells cs)), σ.n + 1⟩

theorem Below.allocd {w : World} (o : Obj) : Below w.heap.size w (w.alloc o) := (Below.refl _ _).alloc (Nat.le_refl _) _

/-- A new variable. -/
def vbox (τ : TypeId → Option TyD) (σ : St) (t : TypeId) (x : V) : Option (V × St) :=
  if x.isVal = true then some (.ptr σ.n 0, σ.new x.cells) else none

theorem newObj_out (hσ : StRel C σ) {cs : List V} {cur : Array Value} {e : TypeId} (hl : cur.size = cs.length) (h1 : cs.all V.one = true) (hr : ∀ (j : Nat) u d, cs[j]? = some u → cur[j]? = some d → VRel C u d ∧ d.oneCell' = true) :
    Ext' C ⟨C.w.alloc (.cells cur e), upd C.m σ.n (.obj C.w.heap.size), C.E⟩ ∧ StRel ⟨C.w.alloc (.cells cur e), upd C.m σ.n (.obj C.w.heap.size), C.E⟩ (σ.new cs) :=
  hσ.newObj cs cur e (by omega) fun j v hj => by
    have hlt := (List.getElem?_eq_some_iff.1 hj).1
    have hd : cur[j]? = some cur[j] := Array.getElem?_eq_getElem (by omega)
    exact ⟨List.all_eq_true.1 h1 v (List.mem_of_getElem? hj), _, hd, (hr j v _ hj hd).1, (hr j v _ hj hd).2⟩

theorem vbox_ok (hσ : StRel C σ) {t : TypeId} {x v : V} {cx : Value} {σ' : St} (hx : VRel C x cx) (h : vbox τ σ t x = some (v, σ')) (o : Oper) (a : Act) (ho : execOp a.eval o = (do pure (.value (← Instr.box t cx)) : Sem Next)) :
    Out P C σ' v ((execOp a.eval o).run P C.w) := by
  unfold vbox at h
  split at h <;> first | (cases h; done) | skip
  rename_i hv
  simp only [Option.some.injEq, Prod.mk.injEq] at h
  obtain ⟨rfl, rfl⟩ := h
  obtain ⟨k1, k2, k3⟩ := hx.cells hv
  obtain ⟨n1, n2⟩ := newObj_out hσ (e := t) k1 k2 k3
  refine ⟨_, n1, n2, .pointer (some ⟨C.w.heap.size, 0, none⟩), .ptr _ _ _ (by simp [upd]) (fun g hg => ?_), .inl ?_⟩
  · simp [upd] at hg; rw [hg]
  · rw [ho]; simp [Instr.box, newVar, newRow]

def valloc (τ : TypeId → Option TyD) (σ : St) (t : TypeId) : Option (V × St) :=
  match τ t with
  | some D => some (.ptr σ.n 0, σ.new D.z)
  | none => none

theorem valloc_ok (hτ : TyOk P τ) (hσ : StRel C σ) {t : TypeId} {v : V} {σ' : St} (h : valloc τ σ t = some (v, σ')) (o : Oper) (a : Act) (ho : execOp a.eval o = (do pure (.value (← Instr.alloc t true (.tuple #[]))) : Sem Next)) :
    Out P C σ' v ((execOp a.eval o).run P C.w) := by
  unfold valloc at h
  split at h <;> first | (cases h; done) | skip
  rename_i D hD
  simp only [Option.some.injEq, Prod.mk.injEq] at h
  obtain ⟨rfl, rfl⟩ := h
  obtain ⟨z, hz, hzm, hzs⟩ := (hτ _ _ hD).zero C.w
  obtain ⟨r1, r2, r3⟩ := zero_rels (C := C) (hτ _ _ hD) hzm
  obtain ⟨n1, n2⟩ := newObj_out hσ (e := t) r1 r2 r3
  refine ⟨_, n1, n2, .pointer (some ⟨C.w.heap.size, 0, none⟩), .ptr _ _ _ (by simp [upd]) (fun g hg => ?_), .inl ?_⟩
  · simp [upd] at hg; rw [hg]
  · rw [ho]; simp [Instr.alloc, hz, newVar, newRow]

def St.put (σ : St) (o : Nat) (cs : List V) : St := ⟨upd σ.h o (some (.cells cs)), σ.n⟩

def vstore (τ : TypeId → Option TyD) (σ : St) (t : TypeId) (x v : V) : Option St :=
  match τ t with
  | some D => match x with
    | .ptr o off => match σ.h o with
      | some (.cells cs) => if v.cells.length = D.sz ∧ off + D.sz ≤ cs.length ∧ v.isVal = true then some (σ.put o (cs.take off ++ v.cells ++ cs.drop (off + D.sz))) else none
      | _ => none
    | _ => none
  | none => none

theorem splice_rel {cs vs : List V} {cur us : List Value} {off : Nat} (hle : off + vs.length ≤ cs.length) (hl : cs.length ≤ cur.length) (hn : us.length = vs.length)
    (h1 : ∀ (k : Nat) u, cs[k]? = some u → u.one = true ∧ ∃ c, cur[k]? = some c ∧ VRel C u c ∧ c.oneCell' = true) (h2 : ∀ (k : Nat) u, vs[k]? = some u → u.one = true ∧ ∃ c, us[k]? = some c ∧ VRel C u c ∧ c.oneCell' = true) :
    ∀ (k : Nat) u, (cs.take off ++ vs ++ cs.drop (off + vs.length))[k]? = some u → u.one = true ∧ ∃ c, (cur.take off ++ us ++ cur.drop (off + us.length))[k]? = some c ∧ VRel C u c ∧ c.oneCell' = true := by
  intro k u hk
  have m1 : min off cs.length = off := by omega
  have m2 : min off cur.length = off := by omega
  simp only [List.append_assoc, List.getElem?_append, List.length_take, List.getElem?_take, List.getElem?_drop, m1, m2, hn] at hk ⊢
  by_cases ha : k < off
  · simp only [ha, if_true] at hk ⊢
    exact h1 k u hk
  · simp only [ha, if_false] at hk ⊢
    by_cases hb : k - off < vs.length
    · simp only [hb, if_true] at hk ⊢
      exact h2 _ u hk
    · simp only [hb, if_false] at hk ⊢
      obtain ⟨a1, c, a2, a3⟩ := h1 _ u hk
      exact ⟨a1, c, a2, a3⟩

theorem vstore_ok (hτ : TyOk P τ) (hσ : StRel C σ) {t : TypeId} {x v : V} {cx cv : Value} {σ' : St} (hx : VRel C x cx) (hv : VRel C v cv) (h : vstore τ σ t x v = some σ') (o : Oper) (a : Act)
    (ho : execOp a.eval o = (do Instr.storeAt t cx cv; pure .skip : Sem Next)) : Out P C σ' .undef ((execOp a.eval o).run P C.w) := by
  unfold vstore at h
  split at h <;> first | (cases h; done) | skip
  rename_i D hD
  split at h <;> first | (cases h; done) | skip
  rename_i ob off
  split at h <;> first | (cases h; done) | skip
  rename_i cs hcs
  split at h <;> first | (cases h; done) | skip
  rename_i hc
  simp only [Option.some.injEq] at h
  subst h
  obtain ⟨c1, c2, c3⟩ := hc
  obtain ⟨g, cur, e, hg, hh, hl, hcell⟩ := hσ.cells hcs
  obtain ⟨y, rfl, hm, hy⟩ := hx.inv_ptr
  obtain ⟨k1, k2, k3⟩ := hv.cells c3
  have hyg := hy g hg
  subst hyg
  have hst := run_storeCells_at P g off e cv.cells.toList 0 cur C.w hh (by simp; omega) (fun u hu => by
    obtain ⟨j, hj⟩ := List.mem_iff_getElem?.1 hu
    have hj' : cv.cells[j]? = some u := by simpa using hj
    have hlt : j < v.cells.length := by rw [← k1]; exact (Array.getElem?_eq_some_iff.1 hj').1
    exact (k3 j _ u (List.getElem?_eq_getElem hlt) hj').2)
  simp only [Nat.add_zero] at hst
  obtain ⟨s1, s2⟩ := hσ.setObj ob g hg (cs.take off ++ v.cells ++ cs.drop (off + D.sz)) cur (cur.toList.take off ++ cv.cells.toList ++ cur.toList.drop (off + cv.cells.toList.length)).toArray e hh (by simp; omega) (fun j u hj => by
    rw [← c1] at hj
    have := splice_rel (C := C) (cs := cs) (vs := v.cells) (cur := cur.toList) (us := cv.cells.toList) (off := off) (by omega) (by simpa using hl) (by simpa using k1) (fun k u hk => by
      obtain ⟨a1, c, a2, a3, a4, a5⟩ := hcell k u hk
      exact ⟨a1, c, by simpa using a2, a4, a5⟩) (fun k u hk => by
      have hlt := (List.getElem?_eq_some_iff.1 hk).1
      have hd : cv.cells[k]? = some (cv.cells[k]'(by omega)) := Array.getElem?_eq_getElem (by omega)
      exact ⟨List.all_eq_true.1 k2 u (List.mem_of_getElem? hk), _, (Array.getElem?_toList).trans hd, (k3 k u _ hk hd).1, (k3 k u _ hk hd).2⟩) j u hj
    simpa using this)
  refine ⟨_, s1, s2, undef, .undef _, .inr ⟨?_, rfl⟩⟩
  rw [ho]
  simp [Instr.storeAt, Instr.sureAddr, storeVar, (hτ _ _ hD).sizeOf, k1, c1, hst]

/-- make: elements that no one writes (obj = false), or an object. -/
def vmake (τ : TypeId → Option TyD) (σ : St) (obj : Bool) (t : TypeId) (l c : V) : Option (V × St) :=
  match τ t, l, c with
  | some ⟨.sl e, _, _, _⟩, .i _ n, .i _ m =>
    match τ e with
    | some D => match zeroElem D with
      | some ze => if 0 ≤ n ∧ n = m ∧ (D.bys : Int) * n ≤ 140737488355328 ∧ n ≤ 140737488355328 then
          (if obj then some (.osl σ.n 0 n.toNat n.toNat, σ.new (List.replicate n.toNat D.z).flatten) else some (.sl D.sz (List.replicate n.toNat ze) .clip, σ))
        else none
      | none => none
    | none => none
  | _, _, _ => none

theorem flatten_rep (z : List V) : ∀ (n q : Nat), 0 < z.length → q < n * z.length → (List.replicate n z).flatten[q]? = z[q % z.length]?
  | 0, q, h0, h => by simp at h
  | n + 1, q, h0, h => by
    simp only [List.replicate_succ, List.flatten_cons]
    by_cases hq : q < z.length
    · rw [List.getElem?_append_left hq, Nat.mod_eq_of_lt hq]
    · rw [List.getElem?_append_right (by omega), flatten_rep z n _ h0 (by rw [Nat.add_mul, Nat.one_mul] at h; omega)]
      congr 1
      exact (Nat.mod_eq_sub_mod (by omega)).symm

theorem vmake_ok (hτ : TyOk P τ) (hσ : StRel C σ) {obj : Bool} {t : TypeId} {l c v : V} {cl cc : Value} {σ' : St} (hl : VRel C l cl) (hc : VRel C c cc) (h : vmake τ σ obj t l c = some (v, σ')) (o : Oper) (a : Act)
    (ho : execOp a.eval o = (do pure (.value (← Instr.makeSlice t cl cc)) : Sem Next)) : Out P C σ' v ((execOp a.eval o).run P C.w) := by
  unfold vmake at h
  split at h <;> first | (cases h; done) | skip
  rename_i e s b z k1 n k2 m ht
  split at h <;> first | (cases h; done) | skip
  rename_i D hD
  split at h <;> first | (cases h; done) | skip
  rename_i ze hze
  split at h <;> first | (cases h; done) | skip
  rename_i hcond
  obtain ⟨c1, rfl, c3, c4⟩ := hcond
  obtain rfl := hl.inv_i
  obtain rfl := hc.inv_i
  obtain ⟨d, hd, he⟩ := (hτ t _ ht).underlying
  obtain rfl := tdOf_sl he
  obtain ⟨i, zz, hi, hs, hb, hz, hzm⟩ := (hτ _ _ hD).info
  obtain ⟨q, rfl⟩ := Int.eq_ofNat_of_zero_le c1
  simp only [Int.toNat_natCast] at h
  have hq : q ≤ 140737488355328 := by omega
  have hby : i.bytes * q ≤ 281474976710656 := by
    rw [hb]
    have : (D.bys * q : Nat) ≤ 140737488355328 := by rw [← Int.natCast_mul] at c3; omega
    omega
  have hrun := run_make (P := P) C.w t e i zz hd hi hz k1 k2 (q : Int) (q : Int) (by omega) (Int.le_refl _) (by rw [← Int.natCast_mul]; omega) (by omega)
  simp only [Int.toNat_natCast, hs] at hrun
  have hsz : zz.cells.size = D.sz := by rw [← (hτ _ _ hD).len, ← hzm]; simp
  have hF := flat_zero (hτ _ _ hD) hzm hze C.w C.S q
  have hrun' : (execOp a.eval o).run P C.w = .ok (.value (.slice (some ⟨C.w.heap.size, 0, none⟩) q q)) (C.w.alloc (.cells (madeCells zz.cells (q * D.sz)) e)) := by
    rw [ho]; simp [hrun]
  have hbel : Below C.w.heap.size C.w (C.w.alloc (.cells (madeCells zz.cells (q * D.sz)) e)) := Below.allocd _
  split at h
  · simp only [Option.some.injEq, Prod.mk.injEq] at h
    obtain ⟨rfl, rfl⟩ := h
    have hfl : ((List.replicate q D.z).flatten).length = q * D.sz := by simp [(hτ _ _ hD).len]
    have hat : ∀ (j : Nat) u dd, (List.replicate q D.z).flatten[j]? = some u → (madeCells zz.cells (q * D.sz))[j]? = some dd → VRel C u dd ∧ dd.oneCell' = true := by
      intro j u dd hu hdd
      have hj : j < q * D.sz := by rw [← hfl]; exact (List.getElem?_eq_some_iff.1 hu).1
      have h0 : 0 < D.sz := Nat.pos_of_ne_zero fun h => by rw [h] at hj; simp at hj
      rw [flatten_rep D.z q j (by rw [(hτ _ _ hD).len]; exact h0) (by rw [(hτ _ _ hD).len]; exact hj), (hτ _ _ hD).len] at hu
      obtain ⟨_, c, h2, h3, h4⟩ := zero_rel (hτ _ _ hD) hzm C.w C.S _ u hu
      have hlt : j % D.sz < zz.cells.size := by rw [hsz]; exact Nat.mod_lt _ h0
      simp only [madeCells, Array.getElem?_map, hsz] at hdd
      rw [show (Array.range (q * D.sz))[j]? = some j by simp [hj]] at hdd
      simp only [Option.map_some, Option.some.injEq] at hdd
      rw [getElem!_pos zz.cells _ hlt] at hdd
      rw [Array.getElem?_eq_getElem hlt, Option.some.injEq] at h2
      rw [← hdd, h2]
      exact ⟨.pure _ _ h3, h4⟩
    have hall : (List.replicate q D.z).flatten.all V.one = true := by
      refine List.all_eq_true.2 fun x hx => ?_
      obtain ⟨l, hl1, hl2⟩ := List.mem_flatten.1 hx
      obtain ⟨_, rfl⟩ := List.mem_replicate.1 hl1
      exact List.all_eq_true.1 (hτ _ _ hD).one x hl2
    obtain ⟨n1, n2⟩ := newObj_out hσ (cur := madeCells zz.cells (q * D.sz)) (e := e) (by rw [size_madeCells, hfl]) hall hat
    exact ⟨_, n1, n2, _, .osl _ _ _ _ _ q (by simp [upd]) (Nat.le_refl _) (Nat.le_refl _) (by unfold maxLen; omega) (fun g hg => by simp [upd] at hg; rw [hg]), .inl hrun'⟩
  · simp only [Option.some.injEq, Prod.mk.injEq] at h
    obtain ⟨rfl, rfl⟩ := h
    have hg := hσ.grow hbel
    have hO := Own.lit (w := C.w) (B := 0) e D.sz (List.replicate q ze).length (madeCells zz.cells (q * D.sz)) (Nat.zero_le _) (by simp; unfold maxLen; omega) (by simp [size_madeCells])
    have hp := (hF.mono (w' := C.w.alloc (.cells (madeCells zz.cells (q * D.sz)) e)) (S' := C.S) hg.1.cell).prel (g := .clip) hO.rd (.inr ⟨rfl, rfl⟩) fun x r hx hr => by
      simp only [Option.some.injEq] at hx
      subst hx
      exact hσ.fresh (by rw [add_block]; exact Nat.le_refl _)
    simp only [List.length_replicate] at hp
    exact ⟨_, hg.1, hg.2, _, .pure _ _ hp, .inl hrun'⟩
end
end Go.Vx
