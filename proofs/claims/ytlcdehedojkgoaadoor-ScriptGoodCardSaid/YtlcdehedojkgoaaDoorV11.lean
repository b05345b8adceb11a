/- One operation, soundly; what a call of a function that only computes is worth. -/
import Derived.Test.YtlcdehedojkgoaaDoorV10
namespace Go.Vx
open Go.RowKit Go.Fl
set_option linter.unusedVariables false
set_option linter.unusedSimpArgs false

theorem parts_rel {C : Cx} {σ : St} (hσ : StRel C σ) {fr : Nat → V} {a : Act} (hf : FrRel C fr a) (parts : Array (Nat × Operand)) :
    (parts.toList.map (vprt fr)).length = (parts.map fun (i, x) => (i, a.eval x)).size ∧
    ∀ (j : Nat) p q, (parts.toList.map (vprt fr))[j]? = some p → (parts.map fun (i, x) => (i, a.eval x))[j]? = some q → p.1 = q.1 ∧ VRel C p.2 q.2 := by
  refine ⟨by simp, fun j p q hp hq => ?_⟩
  rw [List.getElem?_map] at hp
  rw [Array.getElem?_map] at hq
  obtain ⟨x, hx, rfl⟩ := Option.map_eq_some_iff.1 hp
  obtain ⟨y, hy, rfl⟩ := Option.map_eq_some_iff.1 hq
  rw [Array.getElem?_toList, hy, Option.some.injEq] at hx
  subst hx
  exact ⟨rfl, veval_rel hσ hf _⟩

theorem args_rel {C : Cx} {σ : St} (hσ : StRel C σ) {fr : Nat → V} {a : Act} (hf : FrRel C fr a) (args : Array Operand) :
    (args.toList.map (veval fr)).length = (args.map a.eval).size ∧ ∀ (j : Nat) v c, (args.toList.map (veval fr))[j]? = some v → (args.map a.eval)[j]? = some c → VRel C v c := by
  refine ⟨by simp, fun j v c hv hc => ?_⟩
  rw [List.getElem?_map] at hv
  rw [Array.getElem?_map] at hc
  obtain ⟨x, hx, rfl⟩ := Option.map_eq_some_iff.1 hv
  obtain ⟨y, hy, rfl⟩ := Option.map_eq_some_iff.1 hc
  rw [Array.getElem?_toList, hy, Option.some.injEq] at hx
  subst hx
  exact veval_rel hσ hf _

section
variable {P : Program} {C : Cx} {σ : St} {τ : TypeId → Option TyD}

theorem Out.of {σ' : St} {v : V} {r : Result Next} (hσ : StRel C σ) {c : Value} (hv : VRel C v c) (hr : r = .ok (.value c) C.w) : Out P C σ v r := ⟨C, .refl _, hσ, c, hv, .inl hr⟩

theorem value_run {s : Sem Value} {c : Value} {w w' : World} (h : s.run P w = .ok c w') : (do pure (.value (← s)) : Sem Next).run P w = .ok (.value c) w' := by
  simp [h]

theorem vbuiltin_ok (hτ : TyOk P τ) (hσ : StRel C σ) {obj : Bool} {b : Builtin} {ts : List TypeId} {xs : List V} {v : V} {σ' : St} {cs : List Value} {ty : TypeId} {consts : Array Bool} (hl : xs.length = cs.length)
    (hx : ∀ (j : Nat) x c, xs[j]? = some x → cs[j]? = some c → VRel C x c) (h : vbuiltin τ σ obj b ts xs = some (v, σ')) : Out P C σ' v ((builtin b ts.toArray ty consts cs.toArray).run P C.w) := by
  unfold vbuiltin at h
  split at h <;> first | (cases h; done) | skip
  · rename_i t x
    split at h <;> first | (cases h; done) | skip
    rename_i D hD
    obtain ⟨u, hu, he⟩ := Option.map_eq_some_iff.1 h
    simp only [Prod.mk.injEq] at he
    obtain ⟨rfl, rfl⟩ := he
    match cs, hl with
    | [c], _ =>
      obtain ⟨r, h1, h2⟩ := vlen_ok (P := P) (ty := ty) (hτ _ _ hD) (hx 0 _ _ rfl rfl) hu
      exact ⟨C, .refl _, hσ, r, h2, .inl (value_run h1)⟩
  · obtain ⟨u, hu, he⟩ := Option.map_eq_some_iff.1 h
    simp only [Prod.mk.injEq] at he
    obtain ⟨rfl, rfl⟩ := he
    obtain ⟨r, h1, h2⟩ := vmms_ok (P := P) (ts := ts.toArray) (ty := ty) hl hx hu
    exact ⟨C, .refl _, hσ, r, h2, .inl (value_run (by simpa using h1))⟩
  · obtain ⟨u, hu, he⟩ := Option.map_eq_some_iff.1 h
    simp only [Prod.mk.injEq] at he
    obtain ⟨rfl, rfl⟩ := he
    obtain ⟨r, h1, h2⟩ := vmms_ok (P := P) (ts := ts.toArray) (ty := ty) hl hx hu
    exact ⟨C, .refl _, hσ, r, h2, .inl (value_run (by simpa using h1))⟩
  · rename_i t tx x y
    split at h <;> first | (cases h; done) | skip
    · rename_i s b z l htx
      obtain ⟨d, hd, he⟩ := (hτ _ _ htx).underlying
      obtain rfl := tdOf_str he
      match cs, hl with
      | [c1, c2], _ =>
        obtain ⟨C', e1, e2, r, e3, e4⟩ := vapp_ok (P := P) (ty := ty) hτ hσ (hx 0 _ _ rfl rfl) (hx 1 _ _ rfl rfl) (.inr ⟨hd, l, rfl⟩) (fun _ _ => hd) h
        exact ⟨C', e1, e2, r, e3, .inl (value_run e4)⟩
    · rename_i e s b z htx hns
      obtain ⟨d, hd, he⟩ := (hτ _ _ htx).underlying
      obtain rfl := tdOf_sl he
      match cs, hl with
      | [c1, c2], _ =>
        obtain ⟨C', e1, e2, r, e3, e4⟩ := vapp_ok (P := P) (ty := ty) hτ hσ (hx 0 _ _ rfl rfl) (hx 1 _ _ rfl rfl) (.inl ⟨_, hd⟩) (fun l hl => absurd hl (hns l)) h
        exact ⟨C', e1, e2, r, e3, .inl (value_run e4)⟩
    · rename_i k s b z k' n htx
      obtain ⟨d, hd, he⟩ := (hτ _ _ htx).underlying
      obtain rfl := tdOf_int he
      match cs, hl with
      | [c1, c2], _ =>
        obtain rfl := (hx 1 _ _ rfl rfl).inv_i
        obtain ⟨C', e1, e2, r, e3, e4⟩ := vappZ_ok (P := P) (ty := ty) hτ hσ (hx 0 _ _ rfl rfl) hd h
        exact ⟨C', e1, e2, r, e3, .inl (value_run e4)⟩
  · rename_i t tx x y
    match cs, hl with
    | [c1, c2], _ =>
      obtain ⟨C', e1, e2, r, e3, e4⟩ := vcopy_ok (P := P) (tx := tx) (ty := ty) hτ hσ (hx 0 _ _ rfl rfl) (hx 1 _ _ rfl rfl) h
      exact ⟨C', e1, e2, r, e3, .inl (value_run e4)⟩

set_option maxHeartbeats 1000000 in
theorem vop_ok (hτ : TyOk P τ) (hσ : StRel C σ) {hint : Nat → Bool} {fr : Nat → V} {a : Act} (hf : FrRel C fr a) {o : Oper} {v : V} {σ' : St} (h : vop τ hint fr σ o = some (v, σ')) : Out P C σ' v ((execOp a.eval o).run P C.w) := by
  unfold vop at h
  split at h <;> first | (cases h; done) | skip
  · rename_i x ho
    simp only [Option.some.injEq, Prod.mk.injEq] at h; obtain ⟨rfl, rfl⟩ := h
    exact Out.of (σ' := σ) hσ (veval_rel hσ hf x) (by simp [execOp, ho])
  · rename_i x ho
    simp only [Option.some.injEq, Prod.mk.injEq] at h; obtain ⟨rfl, rfl⟩ := h
    exact Out.of (σ' := σ) hσ (veval_rel hσ hf x) (by simp [execOp, ho])
  · rename_i c x y ho
    have hc := veval_rel hσ hf c
    split at h <;> first | (cases h; done) | skip
    all_goals
      rename_i hcv
      rw [hcv] at hc
      have hcc := hc.inv_b
      simp only [Option.some.injEq, Prod.mk.injEq] at h; obtain ⟨rfl, rfl⟩ := h
    · exact Out.of (σ' := σ) hσ (veval_rel hσ hf x) (by simp [execOp, ho, hcc, asBool])
    · exact Out.of (σ' := σ) hσ (veval_rel hσ hf y) (by simp [execOp, ho, hcc, asBool])
  · rename_i t ho
    exact valloc_ok hτ hσ h o a (by simp [execOp, ho])
  · rename_i t x ho
    exact vbox_ok hσ (veval_rel hσ hf x) h o a (by simp [execOp, ho])
  · rename_i t parts ho
    obtain ⟨u, hu, he⟩ := Option.map_eq_some_iff.1 h
    simp only [Prod.mk.injEq] at he; obtain ⟨rfl, rfl⟩ := he
    obtain ⟨p1, p2⟩ := parts_rel hσ hf parts
    obtain ⟨c, h1, h2⟩ := vbuild_ok hτ p1 p2 hu
    exact Out.of (σ' := σ) hσ h2 (by simp only [execOp, ho]; exact value_run h1)
  · rename_i t len parts ho
    obtain ⟨u, hu, he⟩ := Option.map_eq_some_iff.1 h
    simp only [Prod.mk.injEq] at he; obtain ⟨rfl, rfl⟩ := he
    obtain ⟨p1, p2⟩ := parts_rel hσ hf parts
    obtain ⟨c, w', h1, h2, h3⟩ := vblit_ok hσ hτ p1 p2 hu
    obtain ⟨g1, g2⟩ := hσ.grow h2
    exact ⟨_, g1, g2, c, h3, .inl (by simp only [execOp, ho]; exact value_run h1)⟩
  · rename_i t x ho
    obtain ⟨u, hu, he⟩ := Option.map_eq_some_iff.1 h
    simp only [Prod.mk.injEq] at he; obtain ⟨rfl, rfl⟩ := he
    obtain ⟨c, h1, h2⟩ := vload_ok hτ hσ (veval_rel hσ hf x) hu
    exact Out.of (σ' := σ) hσ h2 (by simp only [execOp, ho]; exact value_run h1)
  · rename_i t x y ho
    obtain ⟨u, hu, he⟩ := Option.map_eq_some_iff.1 h
    simp only [Prod.mk.injEq] at he; obtain ⟨rfl, rfl⟩ := he
    exact vstore_ok hτ hσ (veval_rel hσ hf x) (veval_rel hσ hf y) hu o a (by simp [execOp, ho])
  · rename_i x ho
    have hx := veval_rel hσ hf x
    split at h <;> first | (cases h; done) | skip
    · rename_i p q hv
      rw [hv] at hx
      simp only [Option.some.injEq, Prod.mk.injEq] at h; obtain ⟨rfl, rfl⟩ := h
      obtain ⟨y, hy, _⟩ := hx.inv_ptr
      exact Out.of (σ' := σ) hσ hx (by simp [execOp, ho, hy])
    · rename_i p hv
      rw [hv] at hx
      simp only [Option.some.injEq, Prod.mk.injEq] at h; obtain ⟨rfl, rfl⟩ := h
      obtain ⟨y, hy⟩ := hx.inv_rp.inv_rp
      exact Out.of (σ' := σ) hσ hx (by simp [execOp, ho, hy])
  · rename_i op t x y yt ho
    split at h <;> first | (cases h; done) | skip
    rename_i D hD
    obtain ⟨u, hu, he⟩ := Option.map_eq_some_iff.1 h
    simp only [Prod.mk.injEq] at he; obtain ⟨rfl, rfl⟩ := he
    obtain ⟨c, h1, h2⟩ := vbinX_ok hτ hD x y (veval_rel hσ hf x) (veval_rel hσ hf y) hu
    exact Out.of (σ' := σ) hσ h2 (by simp only [execOp, ho]; exact value_run h1)
  · rename_i op t x ho
    obtain ⟨u, hu, he⟩ := Option.map_eq_some_iff.1 h
    simp only [Prod.mk.injEq] at he; obtain ⟨rfl, rfl⟩ := he
    obtain ⟨c, h1, h2⟩ := vun_ok (P := P) (veval_rel hσ hf x) hu
    exact Out.of (σ' := σ) hσ h2 (by simp only [execOp, ho]; exact value_run h1)
  · rename_i s d x ho
    obtain ⟨u, hu, he⟩ := Option.map_eq_some_iff.1 h
    simp only [Prod.mk.injEq] at he; obtain ⟨rfl, rfl⟩ := he
    obtain ⟨c, h1, h2⟩ := vconv_ok hτ (veval_rel hσ hf x) hu
    exact Out.of (σ' := σ) hσ h2 (by simp only [execOp, ho]; exact value_run h1)
  · rename_i t x ho
    split at h <;> first | (cases h; done) | skip
    rename_i D hD
    split at h <;> first | (cases h; done) | skip
    rename_i hn1 hn2
    simp only [Option.some.injEq, Prod.mk.injEq] at h; obtain ⟨rfl, rfl⟩ := h
    obtain ⟨d, hd, he⟩ := (hτ _ _ hD).underlying
    refine Out.of (σ' := σ) hσ (.iface t _ _ (veval_rel hσ hf x)) ?_
    simp only [execOp, ho]
    refine value_run ?_
    simp only [Instr.makeInterface, Sem.run_bind, run_underlying hd, Result.andThen_ok]
    cases d <;> first | rfl | (simp [tdOf] at he; exact absurd he.symm hn1)
  · rename_i f first caps ho
    split at h <;> first | (cases h; done) | skip
    rename_i hfirst
    simp only [Option.some.injEq, Prod.mk.injEq] at h; obtain ⟨rfl, rfl⟩ := h
    obtain ⟨p1, p2⟩ := args_rel hσ hf caps
    have hf0 : first = #[] := by simpa using hfirst
    subst hf0
    refine Out.of (σ' := σ) hσ (.fn f _ (caps.map a.eval) p1.symm p2) ?_
    simp only [execOp, ho]
    exact value_run (by simp [Instr.makeFunc])
  · rename_i t l c ho
    exact vmake_ok hτ hσ (veval_rel hσ hf l) (veval_rel hσ hf c) h o a (by simp [execOp, ho])
  · rename_i t x lo hi mx ho
    obtain ⟨u, hu, he⟩ := Option.map_eq_some_iff.1 h
    simp only [Prod.mk.injEq] at he; obtain ⟨rfl, rfl⟩ := he
    have om : ∀ (p : Option Operand), (p.map (veval fr)).isSome = (p.map a.eval).isSome := fun p => by cases p <;> rfl
    have or' : ∀ (p : Option Operand) (u : V) (y : Value), p.map (veval fr) = some u → p.map a.eval = some y → VRel C u y := fun p u y h1 h2 => by
      cases p with
      | none => cases h1
      | some q =>
        simp only [Option.map_some, Option.some.injEq] at h1 h2
        subst h1; subst h2
        exact veval_rel hσ hf q
    obtain ⟨c, h1, h2⟩ := vslice_ok hτ (veval_rel hσ hf x) (om lo) (om hi) (om mx) (or' lo) (or' hi) (or' mx) hu
    exact Out.of (σ' := σ) hσ h2 (by simp only [execOp, ho]; exact value_run h1)
  · rename_i t x f ho
    obtain ⟨u, hu, he⟩ := Option.map_eq_some_iff.1 h
    simp only [Prod.mk.injEq] at he; obtain ⟨rfl, rfl⟩ := he
    obtain ⟨c, h1, h2⟩ := vfaddr_ok hτ (veval_rel hσ hf x) hu
    exact Out.of (σ' := σ) hσ h2 (by simp only [execOp, ho]; exact value_run h1)
  · rename_i t x f ho
    obtain ⟨u, hu, he⟩ := Option.map_eq_some_iff.1 h
    simp only [Prod.mk.injEq] at he; obtain ⟨rfl, rfl⟩ := he
    obtain ⟨c, h1, h2⟩ := vfield_ok hτ (veval_rel hσ hf x) hu
    exact Out.of (σ' := σ) hσ h2 (by simp only [execOp, ho]; exact value_run h1)
  · rename_i t x i ho
    obtain ⟨u, hu, he⟩ := Option.map_eq_some_iff.1 h
    simp only [Prod.mk.injEq] at he; obtain ⟨rfl, rfl⟩ := he
    obtain ⟨c, h1, h2⟩ := viaddr_ok hτ (veval_rel hσ hf x) (veval_rel hσ hf i) hu
    exact Out.of (σ' := σ) hσ h2 (by simp only [execOp, ho]; exact value_run h1)
  · rename_i t x i ho
    obtain ⟨u, hu, he⟩ := Option.map_eq_some_iff.1 h
    simp only [Prod.mk.injEq] at he; obtain ⟨rfl, rfl⟩ := he
    obtain ⟨c, h1, h2⟩ := vindex_ok hτ (veval_rel hσ hf x) (veval_rel hσ hf i) hu
    exact Out.of (σ' := σ) hσ h2 (by simp only [execOp, ho]; exact value_run h1)
  · rename_i x i ho
    obtain ⟨u, hu, he⟩ := Option.map_eq_some_iff.1 h
    simp only [Prod.mk.injEq] at he; obtain ⟨rfl, rfl⟩ := he
    obtain ⟨c, h1, h2⟩ := vext_ok (P := P) (veval_rel hσ hf x) hu
    exact Out.of (σ' := σ) hσ h2 (by simp only [execOp, ho]; exact value_run h1)
  · rename_i b args ts ho
    obtain ⟨p1, p2⟩ := args_rel hσ hf args
    have := vbuiltin_ok (P := P) (ty := o.type) (consts := args.map fun | .const _ => true | _ => false) (cs := (args.map a.eval).toList) hτ hσ (by simp) (fun j x c hx hc => p2 j x c hx ((Array.getElem?_toList).symm.trans hc)) h
    rw [Array.toArray_toList, Array.toArray_toList] at this
    simp only [execOp, ho, resolve, invoke, Sem.run_bind, Sem.run_pure, Result.andThen_ok]
    exact this
end
end Go.Vx
