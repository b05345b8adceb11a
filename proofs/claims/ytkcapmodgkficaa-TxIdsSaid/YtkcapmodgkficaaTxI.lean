/- Transactions: getting one. -/
import Derived.Test.YtkcapmodgkficaaTxD
namespace Go.Proofs.Ytkcapmodgkficaa
open Go.Vx Go.Fl
set_option maxRecDepth 100000
set_option maxHeartbeats 4000000
set_option linter.unusedSimpArgs false
set_option linter.unusedVariables false

theorem GrowS.set {σ : St} {z : Nat} {ty : TypeId} {xs : List V} {c : V} (h : GrowS σ z ty xs c) (R : RdT) : GrowS (setR σ 1 R) z ty xs c := by
  rcases h with h | ⟨t, t1, t2, t3, t4⟩
  · exact .inl h
  · exact .inr ⟨t, t1, t2, t3, by rw [setR_ne _ _ (by omega)]; exact t4⟩
theorem Base.set {σ : St} {R R' : RdT} {cs : List V} (h : Base σ R cs) (hl : R'.1.length ≤ R.1.length) : Base (setR σ 1 R') R' cs := by
  obtain ⟨h1, h2, h0, h3, h4, h5⟩ := h
  exact ⟨setR_at _ _ _, by rw [setR_ne _ _ (by omega)]; exact h2, by rw [setR_ne _ _ (by omega)]; exact h0, by rw [setR_ne _ _ (by omega)]; exact h3, h4, by omega⟩
theorem manyI_ok (σ : St) (ver : Nat) (R : RdT) (h : GI ver 0 (R, []) σ) :
    VRef Try.prog 26 [.ptr 1 0, .i .i64 1, .i .i64 1000, .fn 27 [.ptr 2 0, .ptr 3 0]] σ (fun v σ' => v = .tup [] ∧ ∃ k, GI ver k (getI R) σ') :=
  many_ok (GI ver) Prod.fst (fun a R => (R, a.2)) stepI 1 1000 (by omega) (by omega) (fun k a σ h => h.choose_spec.1.1)
    (fun k a R' σ he h hl => by
      obtain ⟨c, hb, hg⟩ := h
      exact ⟨c, hb.set hl, fun _ => ⟨(hg he).1, (hg he).2.set R'⟩⟩)
    (fun k a σ hk he h => geti_ok ver k a σ hk he h) σ (R, []) h
theorem manyO_ok (σ : St) (ver : Nat) (ins : List TIn) (X : V) (R : RdT) (h : GO ver ins X 0 (R, []) σ) :
    VRef Try.prog 26 [.ptr 1 0, .i .i64 0, .i .i64 1000, .fn 30 [.ptr 2 0, .ptr 3 0]] σ (fun v σ' => v = .tup [] ∧ ∃ k, GO ver ins X k (getO R) σ') :=
  many_ok (GO ver ins X) Prod.fst (fun a R => (R, a.2)) stepO 0 1000 (by omega) (by omega) (fun k a σ h => h.choose_spec.1.1)
    (fun k a R' σ he h hl => by
      obtain ⟨c, hb, hg⟩ := h
      exact ⟨c, hb.set hl, fun _ => ⟨(hg he).1, (hg he).2.1.set R', (hg he).2.2.set R'⟩⟩)
    (fun k a σ hk he h => geto_ok ver ins X k a σ hk he h) σ (R, []) h

theorem tget_ok (b : List UInt8) (hl : b.length ≤ 100000000) : VPure Try.prog 12 [.sl 1 (bv b) .no] (.tup [tv (getT b).1, .i .i64 ((getT b).2.1 : Int), .i .i64 ((getT b).2.2 : Int)]) := by
  have y1 : ∀ s : St, s.h 1 = rcell (b, 0) → 1 < s.n → _ := fun s hs hn => rnumber_ok s 1 (b, 0) 4 (by omega) hn hs
  have z1 := numP_lt 4 (b, 0)
  have z2 := numP_len 4 (b, 0)
  unfold getT
  generalize numP 4 (b, 0) = N at *
  obtain ⟨ver, R1⟩ := N
  have y2 := fun s h => manyI_ok s ver R1 h
  simp only at y1 z1 z2 ⊢
  have v1 := getI_len R1
  generalize getI R1 = A at *
  obtain ⟨R2, ins⟩ := A
  have y3 := fun s X h => manyO_ok s ver ins X R2 h
  simp only at y2 ⊢
  have v2 := getO_len R2
  simp only at v1
  generalize getO R2 = B at *
  obtain ⟨R3, outs⟩ := B
  have y4 : ∀ s : St, s.h 1 = rcell R3 → 1 < s.n → _ := fun s hs hn => rnumber_ok s 1 R3 4 (by omega) hn hs
  have z3 := numP_lt 4 R3
  have z4 := numP_len 4 R3
  have q4 := @numP_err 4 R3
  simp only at y3 z3 z4 q4 ⊢
  generalize numP 4 R3 = M at *
  obtain ⟨lock, R4⟩ := M
  simp only at y4 z3 z4 q4 ⊢
  have w1 : IntKind.u32.wrap (ver : Int) = (ver : Int) := wrap_u32 (by omega) (by omega)
  have w2 : IntKind.u32.wrap (lock : Int) = (lock : Int) := wrap_u32 (by omega) (by omega)
  refine pure_of_body (tyOf_ok _) mixed Try.func12 rfl rfl (fun d => if d = 100000 then 1 else if d = 30 then 4 else if d = 33 then 4 else if d = 34 then 4 else if d = 37 then 4 else if d = 40 then 4 else 0) (by kernel_rfl) (zin ?_)
  dsimp only [Try.f12]

  simp (maxSteps := 1000000) (dsimp := false) (disch := omega) only [zwp_region_f, zwp_seq, znil_none, nilTest_t, nilOf, zops_nil, zops_none, zstep_eq, zput_some, zput_none, zthen_some, zfn_fn, vop, veval, vprt, toVs, toV1, valloc, vbox, vstore, vload, vpart, vbuild, vfill, strip1, stripL, strip0, upd_at, initFr_at, St.new, St.put, hintOf, V.cells, V.isVal, TD.agg, varg1, varg, vargs, List.map_cons, List.map_nil, List.getElem?_cons_zero, List.take_zero, List.drop_succ_cons, List.drop_zero, List.drop_nil, List.nil_append, List.cons_append, List.append_nil, List.length_cons, List.length_nil, Option.map_some, Option.getD_some, and_self, Bool.false_eq_true, Bool.or_false, eq_self, reduceCtorEq, ↓reduceIte, Nat.reduceLeDiff, Nat.reduceEqDiff, Nat.reduceAdd, Nat.zero_add, Nat.le_refl, ty27, ty36, ty71, ty73]
  refine zcall_r (y1 _ rfl (by simp only; omega)) ?_
  rintro v ⟨h, n⟩ ⟨rfl, h1, hK⟩
  have n4 : 4 ≤ n := hK.1
  have h0 : h 0 = some (.cells [.i .u32 0, .sl 0 [] .clip, .sl 0 [] .clip, .i .u32 0]) := hK.2 0 (by simp only; omega) (by omega)
  have h2 : h 2 = some (.cells [.ptr 1 0]) := hK.2 2 (by simp only; omega) (by omega)
  have h3 : h 3 = some (.cells [.i .u32 0, .sl 0 [] .clip, .sl 0 [] .clip, .i .u32 0]) := hK.2 3 (by simp only; omega) (by omega)
  simp only at h1
  clear hK

  simp (maxSteps := 1000000) (dsimp := false) (disch := omega) only [zwp_region_f, zwp_seq, znil_none, nilTest_t, nilOf, zops_nil, zops_none, zstep_eq, zput_some, zput_none, zthen_some, zfn_fn, vop, veval, toVs, toV1, vstore, vload, vpart, vconv, vfaddr, strip1, stripL, strip0, upd_at, St.put, hintOf, V.cells, V.isVal, TD.agg, varg1, vargs1, varg, vargs, List.map_cons, List.map_nil, List.getElem?_cons_zero, List.take_zero, List.drop_succ_cons, List.drop_zero, List.nil_append, List.cons_append, List.append_nil, List.length_cons, List.length_nil, List.isEmpty_nil, List.isEmpty_toArray, Option.map_some, Option.map_none, and_self, Bool.false_eq_true, Bool.or_false, eq_self, reduceCtorEq, ↓reduceIte, Nat.reduceLeDiff, Nat.reduceEqDiff, Nat.reduceAdd, Nat.zero_add, Nat.add_zero, ty22, ty36, ty48, ty71, w1, h1, h2, h3]
  have hl1 : R1.1.length ≤ 100000000 := by omega
  refine zcall_r (y2 _ ⟨.sl 0 [] .clip, ⟨by simp only; rw [upd_ne _ _ (by omega)]; exact h1, by simp only; rw [upd_ne _ _ (by omega)]; exact h2, by simp only; rw [upd_ne _ _ (by omega)]; exact h0, by simp only; rw [upd_same], n4, hl1⟩, fun _ => ⟨Nat.zero_le _, .inl ⟨rfl, rfl⟩⟩⟩) ?_
  rintro v ⟨ha, na⟩ ⟨rfl, ka, X, ⟨a1, a2, a0, a3, a4, a5⟩, aS⟩
  simp only at a1 a2 a0 a3 a4 a5 aS

  simp (maxSteps := 1000000) (dsimp := false) (disch := omega) only [zwp_region_f, zwp_seq, znil_none, nilTest_t, nilOf, zops_nil, zops_none, zstep_eq, zput_some, zthen_some, zfn_fn, vop, veval, toVs, toV1, vload, vpart, strip1, stripL, strip0, upd_at, hintOf, TD.agg, varg1, vargs1, varg, vargs, List.map_cons, List.map_nil, List.getElem?_cons_zero, List.drop_zero, List.append_nil, List.isEmpty_nil, List.isEmpty_toArray, Option.map_some, Option.map_none, Bool.false_eq_true, eq_self, ↓reduceIte, Nat.reduceEqDiff, ty71, a1, a2, a3]
  refine zcall_r (y3 _ X ⟨.sl 0 [] .clip, ⟨a1, a2, a0, a3, a4, a5⟩, fun he => ⟨Nat.zero_le _, .inl ⟨rfl, rfl⟩, (aS he).2⟩⟩) ?_
  rintro v ⟨hb, nb⟩ ⟨rfl, kb, Y, ⟨b1, b2, b0, b3, b4, b5⟩, bS⟩
  simp only at b1 b2 b0 b3 b4 b5 bS

  simp (maxSteps := 1000000) (dsimp := false) (disch := omega) only [zwp_region_f, zwp_seq, znil_none, nilTest_t, nilOf, zops_nil, zops_none, zstep_eq, zput_some, zthen_some, zfn_fn, vop, veval, toVs, toV1, vload, vpart, strip1, strip0, upd_at, hintOf, TD.agg, varg1, varg, vargs, List.map_cons, List.map_nil, List.getElem?_cons_zero, List.drop_zero, List.append_nil, Option.map_some, Bool.false_eq_true, Bool.or_false, eq_self, ↓reduceIte, Nat.reduceEqDiff, ty71, b1, b2]
  refine zcall_r (y4 _ b1 (by simp only; omega)) ?_
  rintro v ⟨hc, nc⟩ ⟨rfl, c1, hK⟩
  have cn : nb ≤ nc := hK.1
  have c0 : hc 0 = _ := (hK.2 0 (by simp only; omega) (by omega)).trans b0
  have c2 : hc 2 = _ := (hK.2 2 (by simp only; omega) (by omega)).trans b2
  have c3 : hc 3 = _ := (hK.2 3 (by simp only; omega) (by omega)).trans b3
  simp only at c1
  obtain ⟨L4, e4⟩ := R4
  have c1' : hc 1 = some (.cells [.sl 1 (bv L4) .no, .i .i64 (e4 : Int)]) := c1
  simp only at z4 q4 ⊢
  by_cases he : e4 = 0
  · have he' : (e4 : Int) = 0 := by omega
    rw [if_pos he]

    simp (maxSteps := 1000000) (dsimp := false) (disch := omega) only [zlate_1, zlates_nil, zlates_cons, late1, zld_4, zwp_skip, zwp_region_f, zwp_region_t, zwp_seq, zwp_cond, zwp_ret, znil_none, nilTest_f, nilTest_t, nilOf, zops_nil, zops_none, zstep_eq, zput_some, zput_none, zcond_f, zthen_some, vop, veval, toVs, toV1, vstore, vload, vpart, vbuiltin, vlen, vbinX, vbin, vint, BinOp.sh, vconv, vfaddr, strip1, stripL, strip0, stripTL, strip, upd_at, initFr_at, St.put, V.cells, V.isVal, TD.agg, vret_r, vres, vresL, vseal, List.map_cons, List.map_nil, List.getElem?_cons_zero, List.getElem?_cons_succ, List.take_succ_cons, List.take_zero, List.take_nil, List.drop_succ_cons, List.drop_zero, List.drop_nil, List.nil_append, List.cons_append, List.append_nil, List.length_cons, List.length_nil, Option.map_some, Option.getD_some, Option.bind_some, true_and, and_self, Bool.false_eq_true, Bool.not_true, beq_self_eq_true, eq_self, reduceCtorEq, ↓reduceIte, Nat.reduceEqDiff, Nat.reduceAdd, Nat.zero_add, Nat.add_zero, Nat.le_refl, ty3, ty22, ty27, ty30, ty36, ty48, ty71, ty73, Int.cast_ofNat_Int, bv_length, wrap_i64, bne, w2, c1', c0, c2, c3, he']
    obtain ⟨-, gY, gX⟩ := bS (q4 he)
    simp only at v2
    have hs : (b.length : Int) - (L4.length : Int) = ((b.length - L4.length : Nat) : Int) := by omega
    rw [hs]
    rcases gX with ⟨hi, rfl⟩ | ⟨tx, -, -, rfl, -⟩ <;> rcases gY with ⟨hj, rfl⟩ | ⟨ty, -, -, rfl, -⟩
    · have hi0 : ins = [] := by simpa using hi
      have hj0 : outs = [] := by simpa using hj
      subst hi0
      subst hj0
      simp (maxSteps := 1000000) (dsimp := false) (disch := omega) only [Option.map_some, Option.some.injEq, exists_eq_left']
      exact .tup (.cons (.agg (.cons (.refl _) (.cons (.nil _ _ _) (.cons (.nil _ _ _) (.cons (.refl _) .nil))))) (.cons (.refl _) (.cons (.refl _) .nil)))
    · have hi0 : ins = [] := by simpa using hi
      subst hi0
      simp (maxSteps := 1000000) (dsimp := false) (disch := omega) only [Option.map_some, Option.some.injEq, exists_eq_left']
      exact .tup (.cons (.agg (.cons (.refl _) (.cons (.nil _ _ _) (.cons (.refl _) (.cons (.refl _) .nil))))) (.cons (.refl _) (.cons (.refl _) .nil)))
    · have hj0 : outs = [] := by simpa using hj
      subst hj0
      simp (maxSteps := 1000000) (dsimp := false) (disch := omega) only [Option.map_some, Option.some.injEq, exists_eq_left']
      exact .tup (.cons (.agg (.cons (.refl _) (.cons (.refl _) (.cons (.nil _ _ _) (.cons (.refl _) .nil))))) (.cons (.refl _) (.cons (.refl _) .nil)))
    · simp (maxSteps := 1000000) (dsimp := false) (disch := omega) only [Option.map_some, Option.some.injEq, exists_eq_left']
      exact .refl _
  · have he' : ¬ (e4 : Int) = 0 := by omega
    rw [if_neg he]

    simp (maxSteps := 1000000) (dsimp := false) (disch := omega) only [zlate_1, zlates_nil, zlates_cons, late1, zld_4, zwp_region_f, zwp_region_t, zwp_seq, zwp_cond, zwp_ret, znil_none, nilTest_f, nilTest_t, nilOf, zops_nil, zops_none, zstep_eq, zput_some, zput_none, zcond_t, zthen_some, int_beq, vop, veval, toVs, toV1, vstore, vload, vpart, vbuild, vfill, vbinX, vbin, vint, BinOp.sh, vconv, vfaddr, strip1, stripL, strip0, stripTL, strip, upd_at, St.put, V.cells, V.isVal, TD.agg, vret_r, vres, vresL, vseal, List.map_nil, List.getElem?_cons_zero, List.getElem?_cons_succ, List.take_succ_cons, List.take_zero, List.take_nil, List.drop_succ_cons, List.drop_zero, List.drop_nil, List.nil_append, List.cons_append, List.append_nil, List.length_cons, List.length_nil, Option.map_some, Option.bind_some, Option.some.injEq, true_and, and_self, Bool.false_eq_true, Bool.not_false, decide_false, eq_self, reduceCtorEq, ↓reduceIte, Nat.reduceEqDiff, Nat.reduceAdd, Nat.zero_add, Nat.le_refl, exists_eq_left', ty22, ty30, ty36, ty48, ty71, ty73, Int.cast_ofNat_Int, bne, w2, c1', c0, c2, c3, he']
    exact .tup (.cons (.agg (.cons (.refl _) (.cons (.nil _ _ _) (.cons (.nil _ _ _) (.cons (.refl _) .nil))))) (.cons (.refl _) (.cons (.refl _) .nil)))
end Go.Proofs.Ytkcapmodgkficaa
