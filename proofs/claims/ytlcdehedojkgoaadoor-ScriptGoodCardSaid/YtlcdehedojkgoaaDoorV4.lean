/- What each operation does to values without memory, more: parts, places, slices, conversions, what is built. -/
import Derived.Test.YtlcdehedojkgoaaDoorV3
namespace Go.Vx
open Go.RowKit Go.Fl
set_option linter.unusedVariables false
set_option linter.unusedSimpArgs false

theorem tdOf_sl {d : TypeDesc} {e : TypeId} (h : tdOf d = .sl e) : d = .slice e := by cases d <;> simp [tdOf] at h ⊢; exact h
theorem tdOf_arr {d : TypeDesc} {n : Nat} {e : TypeId} (h : tdOf d = .arr n e) : d = .array n e := by cases d <;> simp [tdOf] at h ⊢; exact h
theorem tdOf_str {d : TypeDesc} (h : tdOf d = .str) : d = .string := by cases d <;> simp [tdOf] at h ⊢
theorem tdOf_int {d : TypeDesc} {k : IntKind} (h : tdOf d = .int k) : d = .int k := by cases d <;> simp [tdOf] at h ⊢; exact h
theorem tdOf_st {d : TypeDesc} {l : List (TypeId × Nat)} (h : tdOf d = .st l) : ∃ fs, d = .struct fs ∧ fs.toList.map (fun f => (f.type, f.offset)) = l := by cases d <;> simp [tdOf] at h; exact ⟨_, rfl, by simpa using h⟩

section
variable {P : Program} {C : Cx}

def vlen (d : TD) (x : V) : Option V :=
  match d, x with
  | .str, .s l => some (.i .i64 l.length)
  | .sl _, .sl _ es _ => some (.i .i64 es.length)
  | .sl _, .osl _ _ len _ => some (.i .i64 len)
  | .arr n _, _ => some (.i .i64 n)
  | _, _ => none

theorem vlen_ok {t ty : TypeId} {D : TyD} (hD : TyAt P t D) {x v : V} {cx : Value} (hx : VRel C x cx) (h : vlen D.d x = some v) :
    ∃ c, (Builtin.len_ #[t] ty #[cx]).run P C.w = .ok c C.w ∧ VRel C v c := by
  obtain ⟨d, hd, he⟩ := hD.underlying
  unfold vlen at h
  split at h <;> first | (cases h; done) | (simp only [Option.some.injEq] at h; subst h)
  · rename_i hdd; rw [hdd] at he; obtain rfl := tdOf_str he
    obtain rfl := hx.inv_s
    refine ⟨_, ?_, .i _ _⟩; simp [Builtin.len_, run_underlying hd, goInt, bstr_size]
  · rename_i hdd; rw [hdd] at he; obtain rfl := tdOf_sl he
    obtain ⟨a, cap, xs, rfl, _⟩ := hx.inv_sl.rd
    refine ⟨_, ?_, .i _ _⟩; simp [Builtin.len_, run_underlying hd, goInt]
  · rename_i hdd; rw [hdd] at he; obtain rfl := tdOf_sl he
    obtain ⟨x, cp, rfl, _⟩ := hx.inv_osl
    refine ⟨_, ?_, .i _ _⟩; simp [Builtin.len_, run_underlying hd, goInt]
  · rename_i hdd; rw [hdd] at he; obtain rfl := tdOf_arr he
    refine ⟨_, ?_, .i _ _⟩; simp [Builtin.len_, run_underlying hd, goInt]

def vmm (mx : Bool) (x y : V) : Option V :=
  match x, y with
  | .i k a, .i _ b => some (.i k (if mx = true then max a b else min a b))
  | _, _ => none
def vmms (mx : Bool) : List V → Option V
  | [x, y] => vmm mx x y
  | [x, y, z] => (vmm mx x y).bind fun u => vmm mx u z
  | _ => none

theorem vmm_ok {mx : Bool} {x y v : V} {cx cy : Value} (hx : VRel C x cx) (hy : VRel C y cy) (h : vmm mx x y = some v) :
    ∃ k a k' b, cx = .int k a ∧ cy = .int k' b ∧ v = .i k (if mx = true then max a b else min a b) := by
  unfold vmm at h
  split at h
  · simp only [Option.some.injEq] at h; subst h
    obtain rfl := hx.inv_i; obtain rfl := hy.inv_i
    exact ⟨_, _, _, _, rfl, rfl, rfl⟩
  · cases h
theorem max_go (a b : Int) : (if b > a then b else a) = max a b := by omega
theorem min_go (a b : Int) : (if b < a then b else a) = min a b := by omega
theorem vmms_ok {mx : Bool} {ts : Array TypeId} {ty : TypeId} {xs : List V} {cs : List Value} {v : V} (hl : xs.length = cs.length) (hx : ∀ (j : Nat) x c, xs[j]? = some x → cs[j]? = some c → VRel C x c) (h : vmms mx xs = some v) :
    ∃ c, (if mx then Builtin.max_ ts ty cs.toArray else Builtin.min_ ts ty cs.toArray).run P C.w = .ok c C.w ∧ VRel C v c := by
  unfold vmms at h
  split at h
  · match cs, hl with
    | [c1, c2], _ =>
      obtain ⟨k, a, k', b, rfl, rfl, rfl⟩ := vmm_ok (hx 0 _ _ rfl rfl) (hx 1 _ _ rfl rfl) h
      cases mx
      · refine ⟨_, ?_, .i _ _⟩; simp only [Builtin.min_, Builtin.min2, List.foldlM, Sem.run_bind, Sem.run_pure, Result.andThen_ok, min_go]; rfl
      · refine ⟨_, ?_, .i _ _⟩; simp only [Builtin.max_, Builtin.max2, List.foldlM, Sem.run_bind, Sem.run_pure, Result.andThen_ok, max_go]; rfl
  · match cs, hl with
    | [c1, c2, c3], _ =>
      obtain ⟨u, h1, h2⟩ := Option.bind_eq_some_iff.1 h
      obtain ⟨k, a, k', b, rfl, rfl, rfl⟩ := vmm_ok (hx 0 _ _ rfl rfl) (hx 1 _ _ rfl rfl) h1
      obtain ⟨k2, a2, k3, b2, e1, rfl, rfl⟩ := vmm_ok (.i _ _) (hx 2 _ _ rfl rfl) h2
      simp only [Value.int.injEq] at e1
      obtain ⟨rfl, rfl⟩ := e1
      cases mx
      · refine ⟨_, ?_, .i _ _⟩; simp only [Builtin.min_, Builtin.min2, List.foldlM, Sem.run_bind, Sem.run_pure, Result.andThen_ok, min_go]; rfl
      · refine ⟨_, ?_, .i _ _⟩; simp only [Builtin.max_, Builtin.max2, List.foldlM, Sem.run_bind, Sem.run_pure, Result.andThen_ok, max_go]; rfl
  · cases h

def vext (x : V) (ix : Nat) : Option V :=
  match x with
  | .tup vs => vs[ix]?
  | _ => none
theorem vext_ok {x v : V} {ix : Nat} {cx : Value} (hx : VRel C x cx) (h : vext x ix = some v) : ∃ c, (Instr.extract cx ix).run P C.w = .ok c C.w ∧ VRel C v c := by
  unfold vext at h
  split at h
  · obtain ⟨ds, rfl, hl, hr⟩ := hx.inv_tup
    have hi : ix < ds.size := by rw [hl]; exact (List.getElem?_eq_some_iff.1 h).1
    have hd : ds[ix]? = some ds[ix] := Array.getElem?_eq_getElem hi
    exact ⟨ds[ix], by simp [Instr.extract, hd], hr ix v _ h hd⟩
  · cases h

/-- Some cells as a value of a type. -/
def vpart (D : TyD) (cs : List V) (off : Nat) : Option V :=
  if D.d.agg then (if off + D.sz ≤ cs.length then some (.agg ((cs.drop off).take D.sz)) else none) else cs[off]?

theorem vpart_rel {D : TyD} {cs : List V} {ds : Array Value} {off : Nat} {v : V} (h1 : cs.all V.one = true) (hl : cs.length ≤ ds.size) (hr : ∀ (j : Nat) v d, cs[j]? = some v → ds[j]? = some d → VRel C v d) (h : vpart D cs off = some v) :
    (D.d.agg = true → off + D.sz ≤ cs.length ∧ VRel C v (.agg (ds.extract off (off + D.sz)))) ∧ (D.d.agg = false → ∃ d, ds[off]? = some d ∧ VRel C v d) := by
  unfold vpart at h
  split at h
  · rename_i ha
    split at h
    · rename_i hle
      simp only [Option.some.injEq] at h; subst h
      refine ⟨fun _ => ⟨hle, .agg _ _ (List.all_eq_true.2 fun x hx => List.all_eq_true.1 h1 x (List.mem_of_mem_drop (List.mem_of_mem_take hx))) (by simp; omega) fun j v d h1 h2 => ?_⟩, fun hf => by rw [ha] at hf; cases hf⟩
      simp only [List.getElem?_take, List.getElem?_drop] at h1
      split at h1
      · rename_i hj
        rw [Array.getElem?_extract] at h2
        split at h2
        · exact hr (off + j) v d h1 h2
        · cases h2
      · cases h1
    · cases h
  · rename_i ha
    have hi := (List.getElem?_eq_some_iff.1 h).1
    have hd : ds[off]? = some ds[off] := Array.getElem?_eq_getElem (by omega)
    exact ⟨fun ht => absurd ht ha, fun _ => ⟨_, hd, hr off v _ h hd⟩⟩

def vfield (τ : TypeId → Option TyD) (t : TypeId) (x : V) (f : Nat) : Option V :=
  match τ t, x with
  | some ⟨.st fs, _, _, _⟩, .agg cs =>
    match fs[f]? with
    | some (ft, off) => match τ ft with
      | some D => vpart D cs off
      | none => none
    | none => none
  | _, _ => none

theorem part_run {t : TypeId} {D : TyD} (hD : TyAt P t D) {cs : List V} {ds : Array Value} {off : Nat} {v : V} (h1 : cs.all V.one = true) (hl : cs.length ≤ ds.size) (hr : ∀ (j : Nat) v d, cs[j]? = some v → ds[j]? = some d → VRel C v d) (h : vpart D cs off = some v) :
    ∃ c, (part t ds off).run P C.w = .ok c C.w ∧ VRel C v c := by
  obtain ⟨h1, h2⟩ := vpart_rel h1 hl hr h
  cases ha : D.d.agg with
  | true => exact ⟨_, by simp [part, hD.isAgg, hD.sizeOf, ha], (h1 ha).2⟩
  | false =>
    obtain ⟨d, hd, hv⟩ := h2 ha
    exact ⟨d, by simp [part, hD.isAgg, ha, hd], hv⟩

theorem vfield_ok {τ : TypeId → Option TyD} (hτ : TyOk P τ) {t : TypeId} {x v : V} {f : Nat} {cx : Value} (hx : VRel C x cx) (h : vfield τ t x f = some v) : ∃ c, (Instr.field t cx f).run P C.w = .ok c C.w ∧ VRel C v c := by
  unfold vfield at h
  split at h
  · rename_i fs s b z ht
    split at h
    · rename_i ft off hf
      split at h
      · rename_i D hD
        obtain ⟨d, hd, he⟩ := (hτ t _ ht).underlying
        obtain ⟨gs, rfl, hgs⟩ := tdOf_st he
        rw [← hgs, List.getElem?_map] at hf
        obtain ⟨fl, hfl, hfe⟩ := Option.map_eq_some_iff.1 hf
        simp only [Prod.mk.injEq] at hfe
        obtain ⟨rfl, rfl⟩ := hfe
        obtain ⟨ds, rfl, h1, hl, hr⟩ := hx.inv_agg
        obtain ⟨c, hc, hv⟩ := part_run (hτ _ _ hD) h1 (by omega) hr h
        refine ⟨c, ?_, hv⟩
        simp only [Array.getElem?_toList] at hfl
        simp [Instr.field, run_underlying hd, hfl, asAgg, hc]
      · cases h
    · cases h
  · cases h

def vfaddr (τ : TypeId → Option TyD) (t : TypeId) (x : V) (f : Nat) : Option V :=
  match τ t with
  | some ⟨.st fs, _, _, _⟩ =>
    match fs[f]? with
    | some (ft, off) => match τ ft with
      | some D => if D.sz = 0 then none else match x with
        | .ptr o q => some (.ptr o (q + off))
        | .rp cs => some (.rp (cs.drop off))
        | _ => none
      | none => none
    | none => none
  | _ => none

theorem PRel.rp_drop {w : World} {S : Addr → Prop} {cs : List V} {x : Addr} (h : PRel w S (.rp cs) (.pointer (some x))) (n : Nat) : PRel w S (.rp (cs.drop n)) (.pointer (some (x.add n))) := by
  cases h with
  | rp _ _ cv hc hr =>
    refine .rp _ _ (fun k => cv (n + k)) (fun k u hk => ?_) (fun k u hk => ?_)
    · rw [List.getElem?_drop] at hk
      rw [add_add]
      exact hc _ u hk
    · rw [List.getElem?_drop] at hk
      exact hr _ u hk
theorem PRel.inv_rp {w : World} {S : Addr → Prop} {cs : List V} {c : Value} (h : PRel w S (.rp cs) c) : ∃ x, c = .pointer (some x) := by
  cases h with
  | rp _ x cv hc hr => exact ⟨x, rfl⟩

theorem add_place {o off q : Nat} {x : Addr} (h : ∀ g, C.m o = .obj g → x = ⟨g, q, none⟩) : ∀ g, C.m o = .obj g → x.add off = ⟨g, q + off, none⟩ := fun g hg => by
  rw [h g hg, addr_add]

theorem vfaddr_ok {τ : TypeId → Option TyD} (hτ : TyOk P τ) {t : TypeId} {x v : V} {f : Nat} {cx : Value} (hx : VRel C x cx) (h : vfaddr τ t x f = some v) : ∃ c, (Instr.fieldAt t cx f).run P C.w = .ok c C.w ∧ VRel C v c := by
  unfold vfaddr at h
  split at h <;> first | (cases h; done) | skip
  rename_i fs s b z ht
  split at h <;> first | (cases h; done) | skip
  rename_i ft off hf
  split at h <;> first | (cases h; done) | skip
  rename_i D hD
  split at h
  · cases h
  rename_i hsz
  obtain ⟨d, hd, he⟩ := (hτ t _ ht).underlying
  obtain ⟨gs, rfl, hgs⟩ := tdOf_st he
  rw [← hgs, List.getElem?_map] at hf
  obtain ⟨fl, hfl, hfe⟩ := Option.map_eq_some_iff.1 hf
  simp only [Prod.mk.injEq] at hfe
  obtain ⟨rfl, rfl⟩ := hfe
  simp only [Array.getElem?_toList] at hfl
  have run : ∀ y : Addr, (Instr.fieldAt t (.pointer (some y)) f).run P C.w = .ok (.pointer (some (y.add fl.offset))) C.w := fun y => by
    simp [Instr.fieldAt, run_underlying hd, hfl, Instr.sureAddr, fieldPlace, (hτ _ _ hD).sizeOf, hsz]
  split at h <;> first | (cases h; done) | (simp only [Option.some.injEq] at h; subst h)
  · obtain ⟨y, rfl, hm, hy⟩ := hx.inv_ptr
    exact ⟨_, run y, .ptr _ _ _ hm (add_place hy)⟩
  · have hp := hx.inv_rp
    obtain ⟨y, rfl⟩ := hp.inv_rp
    exact ⟨_, run y, .pure _ _ (hp.rp_drop _)⟩

def viaddr (τ : TypeId → Option TyD) (t : TypeId) (x i : V) : Option V :=
  match i with
  | .i _ n =>
    if n < 0 then none else
    match τ t with
    | some ⟨.sl e, _, _, _⟩ =>
      match τ e with
      | some D => match x with
        | .sl sz es _ => if sz = D.sz then match es[n.toNat]? with
            | some v => some (.rp v.cells)
            | none => none
          else none
        | .osl o off len _ => if n.toNat < len then some (.ptr o (off + n.toNat * D.sz)) else none
        | _ => none
      | none => none
    | some ⟨.arr len e, _, _, _⟩ =>
      match τ e with
      | some D => if n.toNat < len then match x with
          | .ptr o off => some (.ptr o (off + n.toNat * D.sz))
          | .rp cs => some (.rp (cs.drop (n.toNat * D.sz)))
          | _ => none
        else none
      | none => none
    | _ => none
  | _ => none

theorem PRel.elem {w : World} {S : Addr → Prop} {sz : Nat} {es : List V} {g : Gr} {c : Value} (h : PRel w S (.sl sz es g) c) {j : Nat} {v : V} (hj : es[j]? = some v) :
    ∃ x cap, c = .slice (some x) es.length cap ∧ PRel w S (.rp v.cells) (.pointer (some (x.add (j * sz)))) := by
  cases h with
  | sl _ _ _ a len cap cv hlen hle hmax hnul hg hsz hcell hrel =>
    have hj' := (List.getElem?_eq_some_iff.1 hj).1
    cases a with
    | none => have := hnul rfl; omega
    | some x =>
      refine ⟨x, cap, by rw [hlen], .rp _ _ (fun k => cv (j * sz + k)) (fun k u hk => ?_) fun k u hk => hrel j v k u hj hk⟩
      rw [add_add]
      exact hcell x j v k u rfl hj hk

theorem viaddr_ok {τ : TypeId → Option TyD} (hτ : TyOk P τ) {t : TypeId} {x i v : V} {cx ci : Value} (hx : VRel C x cx) (hi : VRel C i ci) (h : viaddr τ t x i = some v) : ∃ c, (Instr.indexAt t cx ci).run P C.w = .ok c C.w ∧ VRel C v c := by
  unfold viaddr at h
  split at h <;> first | (cases h; done) | skip
  rename_i k n
  obtain rfl := hi.inv_i
  split at h
  · cases h
  rename_i hn
  have hn0 : 0 ≤ n := by omega
  split at h <;> first | (cases h; done) | skip
  · rename_i e s b z ht
    obtain ⟨d, hd, he⟩ := (hτ t _ ht).underlying
    obtain rfl := tdOf_sl he
    split at h <;> first | (cases h; done) | skip
    rename_i D hD
    split at h <;> first | (cases h; done) | skip
    · split at h <;> first | (cases h; done) | skip
      rename_i hsz
      subst hsz
      split at h <;> first | (cases h; done) | (simp only [Option.some.injEq] at h; subst h)
      rename_i u hu
      obtain ⟨y, cap, rfl, hp⟩ := hx.inv_sl.elem hu
      have hlt := (List.getElem?_eq_some_iff.1 hu).1
      have hz := (Int.toNat_lt hn0).1 hlt
      refine ⟨_, ?_, .pure _ _ hp⟩
      simp [Instr.indexAt, asIntOf, run_underlying hd, (hτ _ _ hD).sizeOf, hn0, hz]
    · split at h <;> first | (cases h; done) | (simp only [Option.some.injEq] at h; subst h)
      rename_i hlt
      obtain ⟨y, cp, rfl, hm, hle, hc, hmax, hy⟩ := hx.inv_osl
      have hz := (Int.toNat_lt hn0).1 hlt
      refine ⟨_, ?_, .ptr _ _ _ hm (add_place hy)⟩
      simp [Instr.indexAt, asIntOf, run_underlying hd, (hτ _ _ hD).sizeOf, hn0, hz]
  · rename_i len e s b z ht
    obtain ⟨d, hd, he⟩ := (hτ t _ ht).underlying
    obtain rfl := tdOf_arr he
    split at h <;> first | (cases h; done) | skip
    rename_i D hD
    split at h <;> first | (cases h; done) | skip
    rename_i hlt
    have run : ∀ y : Addr, (Instr.indexAt t (.pointer (some y)) (.int k n)).run P C.w = .ok (.pointer (some (y.add (n.toNat * D.sz)))) C.w := fun y => by
      simp [Instr.indexAt, asIntOf, run_underlying hd, Instr.sureAddr, (hτ _ _ hD).sizeOf, hn0, show n < (len : Int) from by omega]
    split at h <;> first | (cases h; done) | (simp only [Option.some.injEq] at h; subst h)
    · obtain ⟨y, rfl, hm, hy⟩ := hx.inv_ptr
      exact ⟨_, run y, .ptr _ _ _ hm (add_place hy)⟩
    · have hp := hx.inv_rp
      obtain ⟨y, rfl⟩ := hp.inv_rp
      exact ⟨_, run y, .pure _ _ (hp.rp_drop _)⟩
end
end Go.Vx
