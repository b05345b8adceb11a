/- Transactions: getting one's ins and outs. -/
import Derived.Test.YtkcapmodgkficaaTxV
namespace Go.Proofs.Ytkcapmodgkficaa
open Go.Vx Go.Fl
set_option maxRecDepth 100000
set_option maxHeartbeats 4000000
set_option linter.unusedSimpArgs false
set_option linter.unusedVariables false

theorem takeP_err {n : Nat} {R : RdT} (h : (takeP n R).2.2 = 0) : R.2 = 0 ∧ ∃ l, (takeP n R).1 = some l ∧ l.length = n := by
  unfold takeP at h ⊢
  split at h
  · rename_i h0
    split at h
    · cases h
    · rename_i h1
      rw [if_pos h0, if_neg h1]
      exact ⟨h0, _, rfl, by rw [List.length_take]; omega⟩
  · rename_i h0; exact absurd h h0
theorem numP_err {n : Nat} {R : RdT} (h : (numP n R).2.2 = 0) : R.2 = 0 := (takeP_err h).1
theorem hashP_err {R : RdT} (h : (hashP R).2.2 = 0) : R.2 = 0 := (takeP_err h).1
theorem scriptP_err {R : RdT} (h : (scriptP R).2.2 = 0) : R.2 = 0 ∧ ∃ l, (scriptP R).1 = some l := by
  unfold scriptP at h ⊢
  split at h
  · rename_i h0
    split at h
    · rename_i h1
      rw [if_pos h0, if_pos h1]
      exact ⟨h0, _, rfl⟩
    · rename_i h1; exact absurd h h1
  · rename_i h0; exact absurd h h0
theorem takeP_len (n : Nat) (R : RdT) : (takeP n R).2.1.length ≤ R.1.length := by
  unfold takeP
  split
  · split
    · exact Nat.le_refl _
    · simp
  · exact Nat.le_refl _
theorem numP_len (n : Nat) (R : RdT) : (numP n R).2.1.length ≤ R.1.length := takeP_len n R
theorem hashP_len (R : RdT) : (hashP R).2.1.length ≤ R.1.length := takeP_len 32 R
theorem scriptP_len (R : RdT) : (scriptP R).2.1.length ≤ R.1.length := by
  unfold scriptP
  split
  · split
    · simp
    · exact Nat.le_refl _
  · exact Nat.le_refl _
theorem hashP_32 (R : RdT) : (hashP R).1.length = 32 := by
  unfold hashP takeP
  split
  · rfl
  · rename_i h
    split at h
    · split at h
      · cases h
      · cases h; rw [List.length_take]; omega
    · cases h
theorem numP_lt (n : Nat) (R : RdT) : (numP n R).1 < 256 ^ n := by
  unfold numP
  simp only
  split
  · exact Nat.pow_pos (by decide)
  · rename_i l h
    have hl : l.length = n := by
      unfold takeP at h
      split at h
      · split at h
        · cases h
        · cases h; rw [List.length_take]; omega
      · cases h
    rw [← hl]; exact leVal_lt l

/-- One more in. -/
def stepI (a : RdT × List TIn) : RdT × List TIn :=
  ((numP 4 (scriptP (numP 4 (hashP a.1).2).2).2).2, a.2 ++ [((hashP a.1).1, (numP 4 (hashP a.1).2).1, ((scriptP (numP 4 (hashP a.1).2).2).1).getD [], (numP 4 (scriptP (numP 4 (hashP a.1).2).2).2).1)])
def stepO (a : RdT × List TOut) : RdT × List TOut :=
  ((scriptP (numP 8 a.1).2).2, a.2 ++ [((numP 8 a.1).1, ((scriptP (numP 8 a.1).2).1).getD [])])

/-- A slice that grows. -/
def GrowS (σ : St) (z : Nat) (ty : TypeId) (xs : List V) (c : V) : Prop := (xs = [] ∧ c = .sl 0 [] .clip) ∨ ∃ t, 4 ≤ t ∧ t < σ.n ∧ c = .sl z xs (.tok t) ∧ σ.h t = some (.tok ty)
def Base (σ : St) (R : RdT) (cs : List V) : Prop := σ.h 1 = rcell R ∧ σ.h 2 = some (.cells [.ptr 1 0]) ∧ σ.h 0 = some (.cells [.i .u32 0, .sl 0 [] .clip, .sl 0 [] .clip, .i .u32 0]) ∧ σ.h 3 = some (.cells cs) ∧ 4 ≤ σ.n ∧ R.1.length ≤ 100000000
def GI (ver : Nat) (k : Nat) (a : RdT × List TIn) (σ : St) : Prop :=
  ∃ c, Base σ a.1 [.i .u32 (ver : Int), c, .sl 0 [] .clip, .i .u32 0] ∧ (a.1.2 = 0 → a.2.length ≤ k ∧ GrowS σ 35 59 (a.2.map iv) c)

theorem base_fin {h : Nat → Option Ob} {n t m : Nat} {A Y : Option Ob} {R : RdT} {cs : List V} (h1 : h 1 = rcell R) (h2 : h 2 = some (.cells [.ptr 1 0])) (h0 : h 0 = some (.cells [.i .u32 0, .sl 0 [] .clip, .sl 0 [] .clip, .i .u32 0])) (hn : 4 ≤ n) (ht : 4 ≤ t) (hm : 4 ≤ m) (hl : R.1.length ≤ 100000000) :
    Base ⟨upd (upd (upd (upd h n A) t none) m Y) 3 (some (.cells cs)), m + 1⟩ R cs := by
  refine ⟨?_, ?_, ?_, by simp only; rw [upd_same], by simp only; omega, hl⟩
  · simp only
    rw [upd_ne _ _ (by omega), upd_ne _ _ (by omega), upd_ne _ _ (by omega), upd_ne _ _ (by omega)]; exact h1
  · simp only
    rw [upd_ne _ _ (by omega), upd_ne _ _ (by omega), upd_ne _ _ (by omega), upd_ne _ _ (by omega)]; exact h2
  · simp only
    rw [upd_ne _ _ (by omega), upd_ne _ _ (by omega), upd_ne _ _ (by omega), upd_ne _ _ (by omega)]; exact h0
theorem geti_ok (ver : Nat) (k : Nat) (a : RdT × List TIn) (σ : St) (hk : k < 1000) (he : a.1.2 = 0) (h : GI ver k a σ) :
    VRef Try.prog 27 [.ptr 2 0, .ptr 3 0] σ (fun v σ' => v = .tup [] ∧ GI ver (k + 1) (stepI a) σ') := by
  obtain ⟨R, ins⟩ := a
  obtain ⟨c, ⟨h1, h2, h0, h3, hn, hl⟩, hg⟩ := h
  obtain ⟨hk', hg⟩ := hg he
  simp only at h1 h2 h0 h3 hn hl hk' hg he
  unfold stepI
  simp only
  have z1 := hashP_32 R
  have z2 := hashP_len R
  have y1 : ∀ s : St, s.h 1 = rcell R → 1 < s.n → _ := fun s hs hn => rhash_ok s 1 R hn hs
  have q1 := @hashP_err R
  generalize hashP R = H at *
  obtain ⟨hsh, R1⟩ := H
  have z3 := numP_lt 4 R1
  have z4 := numP_len 4 R1
  have y2 : ∀ s : St, s.h 1 = rcell R1 → 1 < s.n → _ := fun s hs hn => rnumber_ok s 1 R1 4 (by omega) hn hs
  have q2 := @numP_err 4 R1
  simp only at z1 z2 z3 z4 q1 q2 ⊢
  generalize numP 4 R1 = N1 at *
  obtain ⟨idx, R2⟩ := N1
  have z5 := scriptP_len R2
  simp only at z4
  have y3 : ∀ s : St, s.h 1 = rcell R2 → _ := fun s hs => rscript_ok s 1 R2 (by omega) hs
  have q3 := @scriptP_err R2
  simp only at z3 z5 q2 q3 ⊢
  generalize scriptP R2 = S at *
  obtain ⟨sc, R3⟩ := S
  have z6 := numP_lt 4 R3
  have z7 := numP_len 4 R3
  have y4 : ∀ s : St, s.h 1 = rcell R3 → 1 < s.n → _ := fun s hs hn => rnumber_ok s 1 R3 4 (by omega) hn hs
  have q4 := @numP_err 4 R3
  simp only at z5 z6 z7 q3 q4 ⊢
  generalize numP 4 R3 = N2 at *
  obtain ⟨seq, R4⟩ := N2
  simp only at y1 y2 y3 y4 z6 z7 q4 ⊢
  have hl4 : R4.1.length ≤ 100000000 := by omega
  obtain ⟨h, n⟩ := σ
  simp only at h1 h2 h0 h3 hn hg
  have n0 : (0 : Nat) ≠ n := by omega
  have n1 : (1 : Nat) ≠ n := by omega
  have n2 : (2 : Nat) ≠ n := by omega
  have n3 : (3 : Nat) ≠ n := by omega
  have w1 : IntKind.u32.wrap (idx : Int) = (idx : Int) := wrap_u32 (by omega) (by omega)
  have w2 : IntKind.u32.wrap (seq : Int) = (seq : Int) := wrap_u32 (by omega) (by omega)
  refine ref_of_body (tyOf_ok _) mixed Try.func27 rfl rfl (fun d => if d = 21 then 1 else 0) (by kernel_rfl) (fun hwf => zin ?_)
  dsimp only [Try.f27]

  simp (maxSteps := 1000000) (dsimp := false) (disch := omega) only [zlate_0, zlate_1, zlates_nil, zlates_cons, late1, zld_0, zld_4, ziw_skip, ziw_f, ziw_t, ziw_seq, ziw_cond, ziw_block, ziw_exit, ziw_ret, ziops_nil, ziops_cons, zistep_eq, zyfn_yld, zyfn_fn, iret_n, iret_r, St0_eq, zwp_skip, zwp_region_f, zwp_region_t, zwp_seq, zwp_cond, zwp_block, zwp_exit, zwp_ret, znil_none, znil_some, nilTest_f, nilTest_t, nilOf, vnil, zops_nil, zops_none, zops_some, zstep_eq, zput_some, zput_none, zcond_t, zcond_f, zwant_t, zwant_f, zthen_some, zthen_none, zfn_fn, int_beq, int_bne, int_lt0, int_le0, wantedV, vop, veval, vprt, toVs, toV1, valloc, vbox, vstore, vload, vpart, vbuild, vfill, vblit, vlits, zeroElem, vmake, vbuiltin, vlen, vmms, vmm, vbinX, vagg, vbin, vint, vshift, BinOp.sh, vun, vconv, vslice, vbnd, vfaddr, vfield, viaddr, vindex, vext, vapp, vsrc, vgrow, vcopy, strip1, stripL, strip0, stripTL, strip, upd_at, initFr_at, St.new, St.put, St.tok, vrecv, hintOf, V.cells, V.isVal, V.one, TD.agg, varg1, vargs1, varg, vargs, flat1, flatL, flat0, flatTL, V.flat, V.free, vret_n, vret_r, rret_n, rret_r, vres, vresL, vseal, vcap, vcaps, updL, List.map_cons, List.map_nil, List.getElem?_cons_zero, List.getElem?_cons_succ, List.getElem?_nil, List.take_succ_cons, List.take_zero, List.take_nil, List.drop_succ_cons, List.drop_zero, List.drop_nil, List.nil_append, List.cons_append, List.append_nil, List.length_cons, List.length_nil, List.length_map, List.length_replicate, List.replicate_one, List.set_cons_zero, List.set_cons_succ, List.isEmpty_cons, List.isEmpty_nil, List.isEmpty_toArray, List.all_cons, List.all_nil, List.getElem?_toArray, List.append_assoc, Option.map_some, Option.map_none, Option.getD_some, Option.getD_none, Option.bind_some, Option.bind_none, Option.any_some, Option.any_none, Option.isSome_some, Option.isSome_none, Option.some.injEq, V.i.injEq, and_true, true_and, and_false, false_and, or_true, true_or, or_false, false_or, and_self, or_self, not_true_eq_false, not_false_eq_true, Bool.false_eq_true, Bool.not_true, Bool.not_false, Bool.true_and, Bool.false_and, Bool.and_true, Bool.and_false, Bool.or_true, Bool.or_false, Bool.true_or, Bool.false_or, Bool.not_eq_true', decide_true, decide_false, decide_eq_true_eq, if_true, if_false, ite_self, beq_self_eq_true, false_implies, true_implies, forall_const, eq_self, reduceCtorEq, ↓reduceIte, Nat.reduceLT, Nat.reduceLeDiff, Nat.reduceEqDiff, Nat.reduceAdd, Nat.reduceSub, Nat.reduceMul, Nat.reduceBEq, Nat.reduceBNe, Nat.zero_add, Nat.add_zero, Nat.sub_zero, Nat.zero_le, Nat.le_refl, Nat.add_sub_cancel_left, Nat.zero_mul, Nat.mul_one, Nat.one_mul, Int.toNat_natCast, Int.reduceLT, Int.reduceLE, Int.reduceEq, Int.reduceAdd, Int.reduceSub, Int.reduceMul, Int.reduceToNat, Int.reduceNeg, beq_true, beq_false, Nat.add_eq_zero_iff, Nat.reduceDiv, Nat.reduceMod, ne_eq, List.cons_ne_nil, exists_false, reduceBEq, exists_eq_left', exists_eq_left, Vle_self, ty2, ty3, ty4, ty5, ty6, ty7, ty8, ty9, ty10, ty11, ty12, ty13, ty14, ty15, ty16, ty17, ty18, ty19, ty20, ty21, ty22, ty23, ty24, ty25, ty26, ty27, ty30, ty33, ty34, ty35, ty36, ty45, ty46, ty48, ty49, ty50, ty51, ty52, ty53, ty54, ty59, ty60, ty61, ty62, ty63, ty71, ty72, ty73, ty81, ty98, ty99, ty100, ty111, ty112, ty116, ty117, ty120, ty121, ty122, ty123, ty124, ty126, ty127, ty129, ty130, ty131, ty134, List.replicate_zero, Int.cast_ofNat_Int, unbv_bv, bv_length, gt_iff_lt, ge_iff_le, wrap_i64, wrap_u8, wrap_u32, wrap_u64, wrap_i32, rem_pos, quo_pos, bne, if_pos, if_neg, n1, n2, n3, h2, Try.f27]
  refine zcall_r (y1 _ (by simp only; rw [upd_ne _ _ n1]; exact h1) (by simp only; omega)) ?_
  rintro v ⟨ha, na⟩ ⟨rfl, ha1, hKa⟩
  have an : n + 1 ≤ na := hKa.1
  have ax := hKa.2 n (by simp only; omega) (by omega)
  have a2 := hKa.2 2 (by simp only; omega) (by omega)
  have a0 := hKa.2 0 (by simp only; omega) (by omega)
  have a3 := hKa.2 3 (by simp only; omega) (by omega)
  simp only at ha1
  simp only [upd_same, upd_ne _ _ n2, upd_ne _ _ n3, upd_ne _ _ n0, h2, h3, h0] at ax a2 a3 a0

  simp (maxSteps := 1000000) (dsimp := false) (disch := omega) only [zlate_0, zlate_1, zlates_nil, zlates_cons, late1, zld_0, zld_4, ziw_skip, ziw_f, ziw_t, ziw_seq, ziw_cond, ziw_block, ziw_exit, ziw_ret, ziops_nil, ziops_cons, zistep_eq, zyfn_yld, zyfn_fn, iret_n, iret_r, St0_eq, zwp_skip, zwp_region_f, zwp_region_t, zwp_seq, zwp_cond, zwp_block, zwp_exit, zwp_ret, znil_none, znil_some, nilTest_f, nilTest_t, nilOf, vnil, zops_nil, zops_none, zops_some, zstep_eq, zput_some, zput_none, zcond_t, zcond_f, zwant_t, zwant_f, zthen_some, zthen_none, zfn_fn, int_beq, int_bne, int_lt0, int_le0, wantedV, vop, veval, vprt, toVs, toV1, valloc, vbox, vstore, vload, vpart, vbuild, vfill, vblit, vlits, zeroElem, vmake, vbuiltin, vlen, vmms, vmm, vbinX, vagg, vbin, vint, vshift, BinOp.sh, vun, vconv, vslice, vbnd, vfaddr, vfield, viaddr, vindex, vext, vapp, vsrc, vgrow, vcopy, strip1, stripL, strip0, stripTL, strip, upd_at, initFr_at, St.new, St.put, St.tok, vrecv, hintOf, V.cells, V.isVal, V.one, TD.agg, varg1, vargs1, varg, vargs, flat1, flatL, flat0, flatTL, V.flat, V.free, vret_n, vret_r, rret_n, rret_r, vres, vresL, vseal, vcap, vcaps, updL, List.map_cons, List.map_nil, List.getElem?_cons_zero, List.getElem?_cons_succ, List.getElem?_nil, List.take_succ_cons, List.take_zero, List.take_nil, List.drop_succ_cons, List.drop_zero, List.drop_nil, List.nil_append, List.cons_append, List.append_nil, List.length_cons, List.length_nil, List.length_map, List.length_replicate, List.replicate_one, List.set_cons_zero, List.set_cons_succ, List.isEmpty_cons, List.isEmpty_nil, List.isEmpty_toArray, List.all_cons, List.all_nil, List.getElem?_toArray, List.append_assoc, Option.map_some, Option.map_none, Option.getD_some, Option.getD_none, Option.bind_some, Option.bind_none, Option.any_some, Option.any_none, Option.isSome_some, Option.isSome_none, Option.some.injEq, V.i.injEq, and_true, true_and, and_false, false_and, or_true, true_or, or_false, false_or, and_self, or_self, not_true_eq_false, not_false_eq_true, Bool.false_eq_true, Bool.not_true, Bool.not_false, Bool.true_and, Bool.false_and, Bool.and_true, Bool.and_false, Bool.or_true, Bool.or_false, Bool.true_or, Bool.false_or, Bool.not_eq_true', decide_true, decide_false, decide_eq_true_eq, if_true, if_false, ite_self, beq_self_eq_true, false_implies, true_implies, forall_const, eq_self, reduceCtorEq, ↓reduceIte, Nat.reduceLT, Nat.reduceLeDiff, Nat.reduceEqDiff, Nat.reduceAdd, Nat.reduceSub, Nat.reduceMul, Nat.reduceBEq, Nat.reduceBNe, Nat.zero_add, Nat.add_zero, Nat.sub_zero, Nat.zero_le, Nat.le_refl, Nat.add_sub_cancel_left, Nat.zero_mul, Nat.mul_one, Nat.one_mul, Int.toNat_natCast, Int.reduceLT, Int.reduceLE, Int.reduceEq, Int.reduceAdd, Int.reduceSub, Int.reduceMul, Int.reduceToNat, Int.reduceNeg, beq_true, beq_false, Nat.add_eq_zero_iff, Nat.reduceDiv, Nat.reduceMod, ne_eq, List.cons_ne_nil, exists_false, reduceBEq, exists_eq_left', exists_eq_left, Vle_self, ty2, ty3, ty4, ty5, ty6, ty7, ty8, ty9, ty10, ty11, ty12, ty13, ty14, ty15, ty16, ty17, ty18, ty19, ty20, ty21, ty22, ty23, ty24, ty25, ty26, ty27, ty30, ty33, ty34, ty35, ty36, ty45, ty46, ty48, ty49, ty50, ty51, ty52, ty53, ty54, ty59, ty60, ty61, ty62, ty63, ty71, ty72, ty73, ty81, ty98, ty99, ty100, ty111, ty112, ty116, ty117, ty120, ty121, ty122, ty123, ty124, ty126, ty127, ty129, ty130, ty131, ty134, List.replicate_zero, Int.cast_ofNat_Int, unbv_bv, bv_length, gt_iff_lt, ge_iff_le, wrap_i64, wrap_u8, wrap_u32, wrap_u64, wrap_i32, rem_pos, quo_pos, bne, if_pos, if_neg, n1, n2, n3, ax, a2, z1, w1, w2]
  refine zcall_r (y2 _ (by simp only; rw [upd_ne _ _ n1]; exact ha1) (by simp only; omega)) ?_
  rintro v ⟨hb, nb⟩ ⟨rfl, hb1, hKb⟩
  have bn : na ≤ nb := hKb.1
  have bx := hKb.2 n (by simp only; omega) (by omega)
  have b2 := hKb.2 2 (by simp only; omega) (by omega)
  have b0 := hKb.2 0 (by simp only; omega) (by omega)
  have b3 := hKb.2 3 (by simp only; omega) (by omega)
  simp only at hb1
  simp only [upd_same, upd_ne _ _ n2, upd_ne _ _ n3, upd_ne _ _ n0, a2, a3, a0] at bx b2 b3 b0
  have lb : (bv hsh).length = 32 := by simp [z1]
  have s1 : ∀ x y z : V, (bv hsh ++ [x, y, z]).length = 35 := fun x y z => by rw [List.length_append, lb]; rfl
  have s2 : ∀ x y z : V, List.take 32 (bv hsh ++ [x, y, z]) = bv hsh := fun x y z => List.take_left' lb
  have s3 : ∀ x y z : V, List.drop 33 (bv hsh ++ [x, y, z]) = [y, z] := fun x y z => by rw [List.drop_append, lb, List.drop_eq_nil_of_le (by omega)]; rfl
  have s4 : ∀ x y z : V, List.take 33 (bv hsh ++ [x, y, z]) = bv hsh ++ [x] := fun x y z => by rw [List.take_append, lb, List.take_of_length_le (by omega)]; rfl
  have s5 : ∀ x y z : V, List.drop 34 (bv hsh ++ [x, y, z]) = [z] := fun x y z => by rw [List.drop_append, lb, List.drop_eq_nil_of_le (by omega)]; rfl
  have s6 : ∀ x y z : V, List.take 34 (bv hsh ++ [x, y, z]) = bv hsh ++ [x, y] := fun x y z => by rw [List.take_append, lb, List.take_of_length_le (by omega)]; rfl
  have s7 : ∀ x y z : V, List.drop 35 (bv hsh ++ [x, y, z]) = [] := fun x y z => by rw [List.drop_append, lb, List.drop_eq_nil_of_le (by omega)]; rfl
  have s8 : ∀ x y z : V, List.take 35 (bv hsh ++ [x, y, z]) = bv hsh ++ [x, y, z] := fun x y z => List.take_of_length_le (by rw [s1]; exact Nat.le_refl _)

  simp (maxSteps := 1000000) (dsimp := false) (disch := omega) only [zlate_0, zlate_1, zlates_nil, zlates_cons, late1, zld_0, zld_4, ziw_skip, ziw_f, ziw_t, ziw_seq, ziw_cond, ziw_block, ziw_exit, ziw_ret, ziops_nil, ziops_cons, zistep_eq, zyfn_yld, zyfn_fn, iret_n, iret_r, St0_eq, zwp_skip, zwp_region_f, zwp_region_t, zwp_seq, zwp_cond, zwp_block, zwp_exit, zwp_ret, znil_none, znil_some, nilTest_f, nilTest_t, nilOf, vnil, zops_nil, zops_none, zops_some, zstep_eq, zput_some, zput_none, zcond_t, zcond_f, zwant_t, zwant_f, zthen_some, zthen_none, zfn_fn, int_beq, int_bne, int_lt0, int_le0, wantedV, vop, veval, vprt, toVs, toV1, valloc, vbox, vstore, vload, vpart, vbuild, vfill, vblit, vlits, zeroElem, vmake, vbuiltin, vlen, vmms, vmm, vbinX, vagg, vbin, vint, vshift, BinOp.sh, vun, vconv, vslice, vbnd, vfaddr, vfield, viaddr, vindex, vext, vapp, vsrc, vgrow, vcopy, strip1, stripL, strip0, stripTL, strip, upd_at, initFr_at, St.new, St.put, St.tok, vrecv, hintOf, V.cells, V.isVal, V.one, TD.agg, varg1, vargs1, varg, vargs, flat1, flatL, flat0, flatTL, V.flat, V.free, vret_n, vret_r, rret_n, rret_r, vres, vresL, vseal, vcap, vcaps, updL, List.map_cons, List.map_nil, List.getElem?_cons_zero, List.getElem?_cons_succ, List.getElem?_nil, List.take_succ_cons, List.take_zero, List.take_nil, List.drop_succ_cons, List.drop_zero, List.drop_nil, List.nil_append, List.cons_append, List.append_nil, List.length_cons, List.length_nil, List.length_map, List.length_replicate, List.replicate_one, List.set_cons_zero, List.set_cons_succ, List.isEmpty_cons, List.isEmpty_nil, List.isEmpty_toArray, List.all_cons, List.all_nil, List.getElem?_toArray, List.append_assoc, Option.map_some, Option.map_none, Option.getD_some, Option.getD_none, Option.bind_some, Option.bind_none, Option.any_some, Option.any_none, Option.isSome_some, Option.isSome_none, Option.some.injEq, V.i.injEq, and_true, true_and, and_false, false_and, or_true, true_or, or_false, false_or, and_self, or_self, not_true_eq_false, not_false_eq_true, Bool.false_eq_true, Bool.not_true, Bool.not_false, Bool.true_and, Bool.false_and, Bool.and_true, Bool.and_false, Bool.or_true, Bool.or_false, Bool.true_or, Bool.false_or, Bool.not_eq_true', decide_true, decide_false, decide_eq_true_eq, if_true, if_false, ite_self, beq_self_eq_true, false_implies, true_implies, forall_const, eq_self, reduceCtorEq, ↓reduceIte, Nat.reduceLT, Nat.reduceLeDiff, Nat.reduceEqDiff, Nat.reduceAdd, Nat.reduceSub, Nat.reduceMul, Nat.reduceBEq, Nat.reduceBNe, Nat.zero_add, Nat.add_zero, Nat.sub_zero, Nat.zero_le, Nat.le_refl, Nat.add_sub_cancel_left, Nat.zero_mul, Nat.mul_one, Nat.one_mul, Int.toNat_natCast, Int.reduceLT, Int.reduceLE, Int.reduceEq, Int.reduceAdd, Int.reduceSub, Int.reduceMul, Int.reduceToNat, Int.reduceNeg, beq_true, beq_false, Nat.add_eq_zero_iff, Nat.reduceDiv, Nat.reduceMod, ne_eq, List.cons_ne_nil, exists_false, reduceBEq, exists_eq_left', exists_eq_left, Vle_self, ty2, ty3, ty4, ty5, ty6, ty7, ty8, ty9, ty10, ty11, ty12, ty13, ty14, ty15, ty16, ty17, ty18, ty19, ty20, ty21, ty22, ty23, ty24, ty25, ty26, ty27, ty30, ty33, ty34, ty35, ty36, ty45, ty46, ty48, ty49, ty50, ty51, ty52, ty53, ty54, ty59, ty60, ty61, ty62, ty63, ty71, ty72, ty73, ty81, ty98, ty99, ty100, ty111, ty112, ty116, ty117, ty120, ty121, ty122, ty123, ty124, ty126, ty127, ty129, ty130, ty131, ty134, List.replicate_zero, Int.cast_ofNat_Int, unbv_bv, bv_length, gt_iff_lt, ge_iff_le, wrap_i64, wrap_u8, wrap_u32, wrap_u64, wrap_i32, rem_pos, quo_pos, bne, if_pos, if_neg, n1, n2, n3, bx, b2, z1, w1, w2, s1, s2, s3, s4, s5, s6, s7, s8]
  refine zcall_r (y3 _ (by simp only; rw [upd_ne _ _ n1]; exact hb1)) ?_
  rintro v s ⟨rfl, rfl⟩
  have m1 : n ≠ 1 := by omega
  have m0 : (0 : Nat) ≠ 1 := by omega
  have m2 : (2 : Nat) ≠ 1 := by omega
  have m3 : (3 : Nat) ≠ 1 := by omega
  cases sc with
  | none =>

    simp (maxSteps := 1000000) (dsimp := false) (disch := omega) only [zlate_0, zlate_1, zlates_nil, zlates_cons, late1, zld_0, zld_4, ziw_skip, ziw_f, ziw_t, ziw_seq, ziw_cond, ziw_block, ziw_exit, ziw_ret, ziops_nil, ziops_cons, zistep_eq, zyfn_yld, zyfn_fn, iret_n, iret_r, St0_eq, zwp_skip, zwp_region_f, zwp_region_t, zwp_seq, zwp_cond, zwp_block, zwp_exit, zwp_ret, znil_none, znil_some, nilTest_f, nilTest_t, nilOf, vnil, zops_nil, zops_none, zops_some, zstep_eq, zput_some, zput_none, zcond_t, zcond_f, zwant_t, zwant_f, zthen_some, zthen_none, zfn_fn, int_beq, int_bne, int_lt0, int_le0, wantedV, vop, veval, vprt, toVs, toV1, valloc, vbox, vstore, vload, vpart, vbuild, vfill, vblit, vlits, zeroElem, vmake, vbuiltin, vlen, vmms, vmm, vbinX, vagg, vbin, vint, vshift, BinOp.sh, vun, vconv, vslice, vbnd, vfaddr, vfield, viaddr, vindex, vext, vapp, vsrc, vgrow, vcopy, strip1, stripL, strip0, stripTL, strip, upd_at, initFr_at, St.new, St.put, St.tok, vrecv, hintOf, V.cells, V.isVal, V.one, TD.agg, varg1, vargs1, varg, vargs, flat1, flatL, flat0, flatTL, V.flat, V.free, vret_n, vret_r, rret_n, rret_r, vres, vresL, vseal, vcap, vcaps, updL, List.map_cons, List.map_nil, List.getElem?_cons_zero, List.getElem?_cons_succ, List.getElem?_nil, List.take_succ_cons, List.take_zero, List.take_nil, List.drop_succ_cons, List.drop_zero, List.drop_nil, List.nil_append, List.cons_append, List.append_nil, List.length_cons, List.length_nil, List.length_map, List.length_replicate, List.replicate_one, List.set_cons_zero, List.set_cons_succ, List.isEmpty_cons, List.isEmpty_nil, List.isEmpty_toArray, List.all_cons, List.all_nil, List.getElem?_toArray, List.append_assoc, Option.map_some, Option.map_none, Option.getD_some, Option.getD_none, Option.bind_some, Option.bind_none, Option.any_some, Option.any_none, Option.isSome_some, Option.isSome_none, Option.some.injEq, V.i.injEq, and_true, true_and, and_false, false_and, or_true, true_or, or_false, false_or, and_self, or_self, not_true_eq_false, not_false_eq_true, Bool.false_eq_true, Bool.not_true, Bool.not_false, Bool.true_and, Bool.false_and, Bool.and_true, Bool.and_false, Bool.or_true, Bool.or_false, Bool.true_or, Bool.false_or, Bool.not_eq_true', decide_true, decide_false, decide_eq_true_eq, if_true, if_false, ite_self, beq_self_eq_true, false_implies, true_implies, forall_const, eq_self, reduceCtorEq, ↓reduceIte, Nat.reduceLT, Nat.reduceLeDiff, Nat.reduceEqDiff, Nat.reduceAdd, Nat.reduceSub, Nat.reduceMul, Nat.reduceBEq, Nat.reduceBNe, Nat.zero_add, Nat.add_zero, Nat.sub_zero, Nat.zero_le, Nat.le_refl, Nat.add_sub_cancel_left, Nat.zero_mul, Nat.mul_one, Nat.one_mul, Int.toNat_natCast, Int.reduceLT, Int.reduceLE, Int.reduceEq, Int.reduceAdd, Int.reduceSub, Int.reduceMul, Int.reduceToNat, Int.reduceNeg, beq_true, beq_false, Nat.add_eq_zero_iff, Nat.reduceDiv, Nat.reduceMod, ne_eq, List.cons_ne_nil, exists_false, reduceBEq, exists_eq_left', exists_eq_left, Vle_self, ty2, ty3, ty4, ty5, ty6, ty7, ty8, ty9, ty10, ty11, ty12, ty13, ty14, ty15, ty16, ty17, ty18, ty19, ty20, ty21, ty22, ty23, ty24, ty25, ty26, ty27, ty30, ty33, ty34, ty35, ty36, ty45, ty46, ty48, ty49, ty50, ty51, ty52, ty53, ty54, ty59, ty60, ty61, ty62, ty63, ty71, ty72, ty73, ty81, ty98, ty99, ty100, ty111, ty112, ty116, ty117, ty120, ty121, ty122, ty123, ty124, ty126, ty127, ty129, ty130, ty131, ty134, List.replicate_zero, Int.cast_ofNat_Int, unbv_bv, bv_length, gt_iff_lt, ge_iff_le, wrap_i64, wrap_u8, wrap_u32, wrap_u64, wrap_i32, rem_pos, quo_pos, bne, if_pos, if_neg, n1, n2, n3, m1, m2, m3, bx, b2, z1, w1, w2, s1, s2, s3, s4, s5, s6, s7, s8, setR, takeV]
    refine zcall_r (y4 _ (by simp only; rw [upd_ne _ _ n1, upd_same]) (by simp only; omega)) ?_
    rintro v ⟨hc, nc⟩ ⟨rfl, hc1, hKc⟩
    have cn : nb ≤ nc := hKc.1
    have cx := hKc.2 n (by simp only; omega) (by omega)
    have c2 := hKc.2 2 (by simp only; omega) (by omega)
    have c0 := hKc.2 0 (by simp only; omega) (by omega)
    have c3 := hKc.2 3 (by simp only; omega) (by omega)
    simp only at hc1
    simp only [upd_same, upd_ne _ _ n2, upd_ne _ _ n3, upd_ne _ _ m2, upd_ne _ _ m3, upd_ne _ _ n0, upd_ne _ _ m0, b2, b3, b0] at cx c2 c3 c0
    have s9 : stripL (bv hsh ++ [V.i .u32 (idx : Int), .sl 0 [] .clip, .i .u32 (seq : Int)]) = some (bv hsh ++ [V.i .u32 (idx : Int), .sl 0 [] .no, .i .u32 (seq : Int)]) := stripL_app (stripL_bv _) rfl
    have s11 : ∀ x y z : V, (bv hsh ++ [x, y, z]).all V.one = (V.one x && (V.one y && (V.one z && true))) := fun x y z => by rw [List.all_append, bv_all]; rfl
    have hbad : ∀ {p : Prop}, R4.2 = 0 → p := fun h4 => by
      obtain ⟨-, l, h5⟩ := q3 (q4 h4)
      cases h5
    rcases hg with ⟨hi, rfl⟩ | ⟨t, t1, t2, rfl, t3⟩
    · have hi0 : ins = [] := by simpa using hi
      subst hi0

      simp (maxSteps := 1000000) (dsimp := false) (disch := omega) only [zlate_0, zlate_1, zlates_nil, zlates_cons, late1, zld_0, zld_4, ziw_skip, ziw_f, ziw_t, ziw_seq, ziw_cond, ziw_block, ziw_exit, ziw_ret, ziops_nil, ziops_cons, zistep_eq, zyfn_yld, zyfn_fn, iret_n, iret_r, St0_eq, zwp_skip, zwp_region_f, zwp_region_t, zwp_seq, zwp_cond, zwp_block, zwp_exit, zwp_ret, znil_none, znil_some, nilTest_f, nilTest_t, nilOf, vnil, zops_nil, zops_none, zops_some, zstep_eq, zput_some, zput_none, zcond_t, zcond_f, zwant_t, zwant_f, zthen_some, zthen_none, zfn_fn, int_beq, int_bne, int_lt0, int_le0, wantedV, vop, veval, vprt, toVs, toV1, valloc, vbox, vstore, vload, vpart, vbuild, vfill, vblit, vlits, zeroElem, vmake, vbuiltin, vlen, vmms, vmm, vbinX, vagg, vbin, vint, vshift, BinOp.sh, vun, vconv, vslice, vbnd, vfaddr, vfield, viaddr, vindex, vext, vapp, vsrc, vgrow, vcopy, strip1, stripL, strip0, stripTL, strip, upd_at, initFr_at, St.new, St.put, St.tok, vrecv, hintOf, V.cells, V.isVal, V.one, TD.agg, varg1, vargs1, varg, vargs, flat1, flatL, flat0, flatTL, V.flat, V.free, vret_n, vret_r, rret_n, rret_r, vres, vresL, vseal, vcap, vcaps, updL, List.map_cons, List.map_nil, List.getElem?_cons_zero, List.getElem?_cons_succ, List.getElem?_nil, List.take_succ_cons, List.take_zero, List.take_nil, List.drop_succ_cons, List.drop_zero, List.drop_nil, List.nil_append, List.cons_append, List.append_nil, List.length_cons, List.length_nil, List.length_map, List.length_replicate, List.replicate_one, List.set_cons_zero, List.set_cons_succ, List.isEmpty_cons, List.isEmpty_nil, List.isEmpty_toArray, List.all_cons, List.all_nil, List.getElem?_toArray, List.append_assoc, Option.map_some, Option.map_none, Option.getD_some, Option.getD_none, Option.bind_some, Option.bind_none, Option.any_some, Option.any_none, Option.isSome_some, Option.isSome_none, Option.some.injEq, V.i.injEq, and_true, true_and, and_false, false_and, or_true, true_or, or_false, false_or, and_self, or_self, not_true_eq_false, not_false_eq_true, Bool.false_eq_true, Bool.not_true, Bool.not_false, Bool.true_and, Bool.false_and, Bool.and_true, Bool.and_false, Bool.or_true, Bool.or_false, Bool.true_or, Bool.false_or, Bool.not_eq_true', decide_true, decide_false, decide_eq_true_eq, if_true, if_false, ite_self, beq_self_eq_true, false_implies, true_implies, forall_const, eq_self, reduceCtorEq, ↓reduceIte, Nat.reduceLT, Nat.reduceLeDiff, Nat.reduceEqDiff, Nat.reduceAdd, Nat.reduceSub, Nat.reduceMul, Nat.reduceBEq, Nat.reduceBNe, Nat.zero_add, Nat.add_zero, Nat.sub_zero, Nat.zero_le, Nat.le_refl, Nat.add_sub_cancel_left, Nat.zero_mul, Nat.mul_one, Nat.one_mul, Int.toNat_natCast, Int.reduceLT, Int.reduceLE, Int.reduceEq, Int.reduceAdd, Int.reduceSub, Int.reduceMul, Int.reduceToNat, Int.reduceNeg, beq_true, beq_false, Nat.add_eq_zero_iff, Nat.reduceDiv, Nat.reduceMod, ne_eq, List.cons_ne_nil, exists_false, reduceBEq, exists_eq_left', exists_eq_left, Vle_self, ty2, ty3, ty4, ty5, ty6, ty7, ty8, ty9, ty10, ty11, ty12, ty13, ty14, ty15, ty16, ty17, ty18, ty19, ty20, ty21, ty22, ty23, ty24, ty25, ty26, ty27, ty30, ty33, ty34, ty35, ty36, ty45, ty46, ty48, ty49, ty50, ty51, ty52, ty53, ty54, ty59, ty60, ty61, ty62, ty63, ty71, ty72, ty73, ty81, ty98, ty99, ty100, ty111, ty112, ty116, ty117, ty120, ty121, ty122, ty123, ty124, ty126, ty127, ty129, ty130, ty131, ty134, List.replicate_zero, Int.cast_ofNat_Int, unbv_bv, bv_length, gt_iff_lt, ge_iff_le, wrap_i64, wrap_u8, wrap_u32, wrap_u64, wrap_i32, rem_pos, quo_pos, bne, if_pos, if_neg, n1, n2, n3, m1, m2, m3, cx, c2, c3, z1, w1, w2, s1, s2, s3, s4, s5, s6, s7, s8, s9]
      exact ⟨_, base_fin hc1 c2 c0 (by omega) (by omega) (by omega) hl4, fun h4 => hbad h4⟩
    · simp only at t2 t3
      have u1 : hc t = some (.tok 59) := by
        have e1 := hKa.2 t (by simp only; omega) (by omega)
        have e2 := hKb.2 t (by simp only; omega) (by omega)
        have e3 := hKc.2 t (by simp only; omega) (by omega)
        simp only at e1 e2 e3
        rw [e3, upd_ne _ _ (by omega), upd_ne _ _ (by omega), upd_ne _ _ (by omega), e2, upd_ne _ _ (by omega), e1, upd_ne _ _ (by omega), t3]
      have u2 : (ins.length + 1) * 10000 ≤ 140737488355328 := by omega
      have u3 : t ≠ 3 := by omega
      have u4 : (3 : Nat) ≠ t := by omega
      have u5 : n ≠ t := by omega

      simp (maxSteps := 1000000) (dsimp := false) (disch := omega) only [zlate_0, zlate_1, zlates_nil, zlates_cons, late1, zld_0, zld_4, ziw_skip, ziw_f, ziw_t, ziw_seq, ziw_cond, ziw_block, ziw_exit, ziw_ret, ziops_nil, ziops_cons, zistep_eq, zyfn_yld, zyfn_fn, iret_n, iret_r, St0_eq, zwp_skip, zwp_region_f, zwp_region_t, zwp_seq, zwp_cond, zwp_block, zwp_exit, zwp_ret, znil_none, znil_some, nilTest_f, nilTest_t, nilOf, vnil, zops_nil, zops_none, zops_some, zstep_eq, zput_some, zput_none, zcond_t, zcond_f, zwant_t, zwant_f, zthen_some, zthen_none, zfn_fn, int_beq, int_bne, int_lt0, int_le0, wantedV, vop, veval, vprt, toVs, toV1, valloc, vbox, vstore, vload, vpart, vbuild, vfill, vblit, vlits, zeroElem, vmake, vbuiltin, vlen, vmms, vmm, vbinX, vagg, vbin, vint, vshift, BinOp.sh, vun, vconv, vslice, vbnd, vfaddr, vfield, viaddr, vindex, vext, vapp, vsrc, vgrow, vcopy, strip1, stripL, strip0, stripTL, strip, upd_at, initFr_at, St.new, St.put, St.tok, vrecv, hintOf, V.cells, V.isVal, V.one, TD.agg, varg1, vargs1, varg, vargs, flat1, flatL, flat0, flatTL, V.flat, V.free, vret_n, vret_r, rret_n, rret_r, vres, vresL, vseal, vcap, vcaps, updL, List.map_cons, List.map_nil, List.getElem?_cons_zero, List.getElem?_cons_succ, List.getElem?_nil, List.take_succ_cons, List.take_zero, List.take_nil, List.drop_succ_cons, List.drop_zero, List.drop_nil, List.nil_append, List.cons_append, List.append_nil, List.length_cons, List.length_nil, List.length_map, List.length_replicate, List.replicate_one, List.set_cons_zero, List.set_cons_succ, List.isEmpty_cons, List.isEmpty_nil, List.isEmpty_toArray, List.all_cons, List.all_nil, List.getElem?_toArray, List.append_assoc, Option.map_some, Option.map_none, Option.getD_some, Option.getD_none, Option.bind_some, Option.bind_none, Option.any_some, Option.any_none, Option.isSome_some, Option.isSome_none, Option.some.injEq, V.i.injEq, and_true, true_and, and_false, false_and, or_true, true_or, or_false, false_or, and_self, or_self, not_true_eq_false, not_false_eq_true, Bool.false_eq_true, Bool.not_true, Bool.not_false, Bool.true_and, Bool.false_and, Bool.and_true, Bool.and_false, Bool.or_true, Bool.or_false, Bool.true_or, Bool.false_or, Bool.not_eq_true', decide_true, decide_false, decide_eq_true_eq, if_true, if_false, ite_self, beq_self_eq_true, false_implies, true_implies, forall_const, eq_self, reduceCtorEq, ↓reduceIte, Nat.reduceLT, Nat.reduceLeDiff, Nat.reduceEqDiff, Nat.reduceAdd, Nat.reduceSub, Nat.reduceMul, Nat.reduceBEq, Nat.reduceBNe, Nat.zero_add, Nat.add_zero, Nat.sub_zero, Nat.zero_le, Nat.le_refl, Nat.add_sub_cancel_left, Nat.zero_mul, Nat.mul_one, Nat.one_mul, Int.toNat_natCast, Int.reduceLT, Int.reduceLE, Int.reduceEq, Int.reduceAdd, Int.reduceSub, Int.reduceMul, Int.reduceToNat, Int.reduceNeg, beq_true, beq_false, Nat.add_eq_zero_iff, Nat.reduceDiv, Nat.reduceMod, ne_eq, List.cons_ne_nil, exists_false, reduceBEq, exists_eq_left', exists_eq_left, Vle_self, ty2, ty3, ty4, ty5, ty6, ty7, ty8, ty9, ty10, ty11, ty12, ty13, ty14, ty15, ty16, ty17, ty18, ty19, ty20, ty21, ty22, ty23, ty24, ty25, ty26, ty27, ty30, ty33, ty34, ty35, ty36, ty45, ty46, ty48, ty49, ty50, ty51, ty52, ty53, ty54, ty59, ty60, ty61, ty62, ty63, ty71, ty72, ty73, ty81, ty98, ty99, ty100, ty111, ty112, ty116, ty117, ty120, ty121, ty122, ty123, ty124, ty126, ty127, ty129, ty130, ty131, ty134, List.replicate_zero, Int.cast_ofNat_Int, unbv_bv, bv_length, gt_iff_lt, ge_iff_le, wrap_i64, wrap_u8, wrap_u32, wrap_u64, wrap_i32, rem_pos, quo_pos, bne, if_pos, if_neg, n1, n2, n3, m1, m2, m3, cx, c2, c3, z1, w1, w2, s1, s2, s3, s4, s5, s6, s7, s8, s9, u1, u2, u3, u4, u5, List.length_map]
      exact ⟨_, base_fin hc1 c2 c0 (by omega) (by omega) (by omega) hl4, fun h4 => hbad h4⟩
  | some l =>

    simp (maxSteps := 1000000) (dsimp := false) (disch := omega) only [zlate_0, zlate_1, zlates_nil, zlates_cons, late1, zld_0, zld_4, ziw_skip, ziw_f, ziw_t, ziw_seq, ziw_cond, ziw_block, ziw_exit, ziw_ret, ziops_nil, ziops_cons, zistep_eq, zyfn_yld, zyfn_fn, iret_n, iret_r, St0_eq, zwp_skip, zwp_region_f, zwp_region_t, zwp_seq, zwp_cond, zwp_block, zwp_exit, zwp_ret, znil_none, znil_some, nilTest_f, nilTest_t, nilOf, vnil, zops_nil, zops_none, zops_some, zstep_eq, zput_some, zput_none, zcond_t, zcond_f, zwant_t, zwant_f, zthen_some, zthen_none, zfn_fn, int_beq, int_bne, int_lt0, int_le0, wantedV, vop, veval, vprt, toVs, toV1, valloc, vbox, vstore, vload, vpart, vbuild, vfill, vblit, vlits, zeroElem, vmake, vbuiltin, vlen, vmms, vmm, vbinX, vagg, vbin, vint, vshift, BinOp.sh, vun, vconv, vslice, vbnd, vfaddr, vfield, viaddr, vindex, vext, vapp, vsrc, vgrow, vcopy, strip1, stripL, strip0, stripTL, strip, upd_at, initFr_at, St.new, St.put, St.tok, vrecv, hintOf, V.cells, V.isVal, V.one, TD.agg, varg1, vargs1, varg, vargs, flat1, flatL, flat0, flatTL, V.flat, V.free, vret_n, vret_r, rret_n, rret_r, vres, vresL, vseal, vcap, vcaps, updL, List.map_cons, List.map_nil, List.getElem?_cons_zero, List.getElem?_cons_succ, List.getElem?_nil, List.take_succ_cons, List.take_zero, List.take_nil, List.drop_succ_cons, List.drop_zero, List.drop_nil, List.nil_append, List.cons_append, List.append_nil, List.length_cons, List.length_nil, List.length_map, List.length_replicate, List.replicate_one, List.set_cons_zero, List.set_cons_succ, List.isEmpty_cons, List.isEmpty_nil, List.isEmpty_toArray, List.all_cons, List.all_nil, List.getElem?_toArray, List.append_assoc, Option.map_some, Option.map_none, Option.getD_some, Option.getD_none, Option.bind_some, Option.bind_none, Option.any_some, Option.any_none, Option.isSome_some, Option.isSome_none, Option.some.injEq, V.i.injEq, and_true, true_and, and_false, false_and, or_true, true_or, or_false, false_or, and_self, or_self, not_true_eq_false, not_false_eq_true, Bool.false_eq_true, Bool.not_true, Bool.not_false, Bool.true_and, Bool.false_and, Bool.and_true, Bool.and_false, Bool.or_true, Bool.or_false, Bool.true_or, Bool.false_or, Bool.not_eq_true', decide_true, decide_false, decide_eq_true_eq, if_true, if_false, ite_self, beq_self_eq_true, false_implies, true_implies, forall_const, eq_self, reduceCtorEq, ↓reduceIte, Nat.reduceLT, Nat.reduceLeDiff, Nat.reduceEqDiff, Nat.reduceAdd, Nat.reduceSub, Nat.reduceMul, Nat.reduceBEq, Nat.reduceBNe, Nat.zero_add, Nat.add_zero, Nat.sub_zero, Nat.zero_le, Nat.le_refl, Nat.add_sub_cancel_left, Nat.zero_mul, Nat.mul_one, Nat.one_mul, Int.toNat_natCast, Int.reduceLT, Int.reduceLE, Int.reduceEq, Int.reduceAdd, Int.reduceSub, Int.reduceMul, Int.reduceToNat, Int.reduceNeg, beq_true, beq_false, Nat.add_eq_zero_iff, Nat.reduceDiv, Nat.reduceMod, ne_eq, List.cons_ne_nil, exists_false, reduceBEq, exists_eq_left', exists_eq_left, Vle_self, ty2, ty3, ty4, ty5, ty6, ty7, ty8, ty9, ty10, ty11, ty12, ty13, ty14, ty15, ty16, ty17, ty18, ty19, ty20, ty21, ty22, ty23, ty24, ty25, ty26, ty27, ty30, ty33, ty34, ty35, ty36, ty45, ty46, ty48, ty49, ty50, ty51, ty52, ty53, ty54, ty59, ty60, ty61, ty62, ty63, ty71, ty72, ty73, ty81, ty98, ty99, ty100, ty111, ty112, ty116, ty117, ty120, ty121, ty122, ty123, ty124, ty126, ty127, ty129, ty130, ty131, ty134, List.replicate_zero, Int.cast_ofNat_Int, unbv_bv, bv_length, gt_iff_lt, ge_iff_le, wrap_i64, wrap_u8, wrap_u32, wrap_u64, wrap_i32, rem_pos, quo_pos, bne, if_pos, if_neg, n1, n2, n3, m1, m2, m3, bx, b2, z1, w1, w2, s1, s2, s3, s4, s5, s6, s7, s8, setR, takeV]
    refine zcall_r (y4 _ (by simp only; rw [upd_ne _ _ n1, upd_same]) (by simp only; omega)) ?_
    rintro v ⟨hc, nc⟩ ⟨rfl, hc1, hKc⟩
    have cn : nb ≤ nc := hKc.1
    have cx := hKc.2 n (by simp only; omega) (by omega)
    have c2 := hKc.2 2 (by simp only; omega) (by omega)
    have c0 := hKc.2 0 (by simp only; omega) (by omega)
    have c3 := hKc.2 3 (by simp only; omega) (by omega)
    simp only at hc1
    simp only [upd_same, upd_ne _ _ n2, upd_ne _ _ n3, upd_ne _ _ m2, upd_ne _ _ m3, upd_ne _ _ n0, upd_ne _ _ m0, b2, b3, b0] at cx c2 c3 c0
    have s9 : stripL (bv hsh ++ [V.i .u32 (idx : Int), .sl 1 (bv l) .no, .i .u32 (seq : Int)]) = some (bv hsh ++ [V.i .u32 (idx : Int), .sl 1 (bv l) .no, .i .u32 (seq : Int)]) := stripL_app (stripL_bv _) rfl
    rcases hg with ⟨hi, rfl⟩ | ⟨t, t1, t2, rfl, t3⟩
    · have hi0 : ins = [] := by simpa using hi
      subst hi0

      simp (maxSteps := 1000000) (dsimp := false) (disch := omega) only [zlate_0, zlate_1, zlates_nil, zlates_cons, late1, zld_0, zld_4, ziw_skip, ziw_f, ziw_t, ziw_seq, ziw_cond, ziw_block, ziw_exit, ziw_ret, ziops_nil, ziops_cons, zistep_eq, zyfn_yld, zyfn_fn, iret_n, iret_r, St0_eq, zwp_skip, zwp_region_f, zwp_region_t, zwp_seq, zwp_cond, zwp_block, zwp_exit, zwp_ret, znil_none, znil_some, nilTest_f, nilTest_t, nilOf, vnil, zops_nil, zops_none, zops_some, zstep_eq, zput_some, zput_none, zcond_t, zcond_f, zwant_t, zwant_f, zthen_some, zthen_none, zfn_fn, int_beq, int_bne, int_lt0, int_le0, wantedV, vop, veval, vprt, toVs, toV1, valloc, vbox, vstore, vload, vpart, vbuild, vfill, vblit, vlits, zeroElem, vmake, vbuiltin, vlen, vmms, vmm, vbinX, vagg, vbin, vint, vshift, BinOp.sh, vun, vconv, vslice, vbnd, vfaddr, vfield, viaddr, vindex, vext, vapp, vsrc, vgrow, vcopy, strip1, stripL, strip0, stripTL, strip, upd_at, initFr_at, St.new, St.put, St.tok, vrecv, hintOf, V.cells, V.isVal, V.one, TD.agg, varg1, vargs1, varg, vargs, flat1, flatL, flat0, flatTL, V.flat, V.free, vret_n, vret_r, rret_n, rret_r, vres, vresL, vseal, vcap, vcaps, updL, List.map_cons, List.map_nil, List.getElem?_cons_zero, List.getElem?_cons_succ, List.getElem?_nil, List.take_succ_cons, List.take_zero, List.take_nil, List.drop_succ_cons, List.drop_zero, List.drop_nil, List.nil_append, List.cons_append, List.append_nil, List.length_cons, List.length_nil, List.length_map, List.length_replicate, List.replicate_one, List.set_cons_zero, List.set_cons_succ, List.isEmpty_cons, List.isEmpty_nil, List.isEmpty_toArray, List.all_cons, List.all_nil, List.getElem?_toArray, List.append_assoc, Option.map_some, Option.map_none, Option.getD_some, Option.getD_none, Option.bind_some, Option.bind_none, Option.any_some, Option.any_none, Option.isSome_some, Option.isSome_none, Option.some.injEq, V.i.injEq, and_true, true_and, and_false, false_and, or_true, true_or, or_false, false_or, and_self, or_self, not_true_eq_false, not_false_eq_true, Bool.false_eq_true, Bool.not_true, Bool.not_false, Bool.true_and, Bool.false_and, Bool.and_true, Bool.and_false, Bool.or_true, Bool.or_false, Bool.true_or, Bool.false_or, Bool.not_eq_true', decide_true, decide_false, decide_eq_true_eq, if_true, if_false, ite_self, beq_self_eq_true, false_implies, true_implies, forall_const, eq_self, reduceCtorEq, ↓reduceIte, Nat.reduceLT, Nat.reduceLeDiff, Nat.reduceEqDiff, Nat.reduceAdd, Nat.reduceSub, Nat.reduceMul, Nat.reduceBEq, Nat.reduceBNe, Nat.zero_add, Nat.add_zero, Nat.sub_zero, Nat.zero_le, Nat.le_refl, Nat.add_sub_cancel_left, Nat.zero_mul, Nat.mul_one, Nat.one_mul, Int.toNat_natCast, Int.reduceLT, Int.reduceLE, Int.reduceEq, Int.reduceAdd, Int.reduceSub, Int.reduceMul, Int.reduceToNat, Int.reduceNeg, beq_true, beq_false, Nat.add_eq_zero_iff, Nat.reduceDiv, Nat.reduceMod, ne_eq, List.cons_ne_nil, exists_false, reduceBEq, exists_eq_left', exists_eq_left, Vle_self, ty2, ty3, ty4, ty5, ty6, ty7, ty8, ty9, ty10, ty11, ty12, ty13, ty14, ty15, ty16, ty17, ty18, ty19, ty20, ty21, ty22, ty23, ty24, ty25, ty26, ty27, ty30, ty33, ty34, ty35, ty36, ty45, ty46, ty48, ty49, ty50, ty51, ty52, ty53, ty54, ty59, ty60, ty61, ty62, ty63, ty71, ty72, ty73, ty81, ty98, ty99, ty100, ty111, ty112, ty116, ty117, ty120, ty121, ty122, ty123, ty124, ty126, ty127, ty129, ty130, ty131, ty134, List.replicate_zero, Int.cast_ofNat_Int, unbv_bv, bv_length, gt_iff_lt, ge_iff_le, wrap_i64, wrap_u8, wrap_u32, wrap_u64, wrap_i32, rem_pos, quo_pos, bne, if_pos, if_neg, n1, n2, n3, m1, m2, m3, cx, c2, c3, z1, w1, w2, s1, s2, s3, s4, s5, s6, s7, s8, s9]
      exact ⟨_, base_fin hc1 c2 c0 (by omega) (by omega) (by omega) hl4, fun _ => ⟨by simp, .inr ⟨nc, by omega, by simp only; omega, rfl, by simp only; rw [upd_ne _ _ (by omega), upd_same]⟩⟩⟩
    · simp only at t2 t3
      have u1 : hc t = some (.tok 59) := by
        have e1 := hKa.2 t (by simp only; omega) (by omega)
        have e2 := hKb.2 t (by simp only; omega) (by omega)
        have e3 := hKc.2 t (by simp only; omega) (by omega)
        simp only at e1 e2 e3
        rw [e3, upd_ne _ _ (by omega), upd_ne _ _ (by omega), upd_ne _ _ (by omega), e2, upd_ne _ _ (by omega), e1, upd_ne _ _ (by omega), t3]
      have u2 : (ins.length + 1) * 10000 ≤ 140737488355328 := by omega
      have u3 : t ≠ 3 := by omega
      have u4 : (3 : Nat) ≠ t := by omega
      have u5 : n ≠ t := by omega

      simp (maxSteps := 1000000) (dsimp := false) (disch := omega) only [zlate_0, zlate_1, zlates_nil, zlates_cons, late1, zld_0, zld_4, ziw_skip, ziw_f, ziw_t, ziw_seq, ziw_cond, ziw_block, ziw_exit, ziw_ret, ziops_nil, ziops_cons, zistep_eq, zyfn_yld, zyfn_fn, iret_n, iret_r, St0_eq, zwp_skip, zwp_region_f, zwp_region_t, zwp_seq, zwp_cond, zwp_block, zwp_exit, zwp_ret, znil_none, znil_some, nilTest_f, nilTest_t, nilOf, vnil, zops_nil, zops_none, zops_some, zstep_eq, zput_some, zput_none, zcond_t, zcond_f, zwant_t, zwant_f, zthen_some, zthen_none, zfn_fn, int_beq, int_bne, int_lt0, int_le0, wantedV, vop, veval, vprt, toVs, toV1, valloc, vbox, vstore, vload, vpart, vbuild, vfill, vblit, vlits, zeroElem, vmake, vbuiltin, vlen, vmms, vmm, vbinX, vagg, vbin, vint, vshift, BinOp.sh, vun, vconv, vslice, vbnd, vfaddr, vfield, viaddr, vindex, vext, vapp, vsrc, vgrow, vcopy, strip1, stripL, strip0, stripTL, strip, upd_at, initFr_at, St.new, St.put, St.tok, vrecv, hintOf, V.cells, V.isVal, V.one, TD.agg, varg1, vargs1, varg, vargs, flat1, flatL, flat0, flatTL, V.flat, V.free, vret_n, vret_r, rret_n, rret_r, vres, vresL, vseal, vcap, vcaps, updL, List.map_cons, List.map_nil, List.getElem?_cons_zero, List.getElem?_cons_succ, List.getElem?_nil, List.take_succ_cons, List.take_zero, List.take_nil, List.drop_succ_cons, List.drop_zero, List.drop_nil, List.nil_append, List.cons_append, List.append_nil, List.length_cons, List.length_nil, List.length_map, List.length_replicate, List.replicate_one, List.set_cons_zero, List.set_cons_succ, List.isEmpty_cons, List.isEmpty_nil, List.isEmpty_toArray, List.all_cons, List.all_nil, List.getElem?_toArray, List.append_assoc, Option.map_some, Option.map_none, Option.getD_some, Option.getD_none, Option.bind_some, Option.bind_none, Option.any_some, Option.any_none, Option.isSome_some, Option.isSome_none, Option.some.injEq, V.i.injEq, and_true, true_and, and_false, false_and, or_true, true_or, or_false, false_or, and_self, or_self, not_true_eq_false, not_false_eq_true, Bool.false_eq_true, Bool.not_true, Bool.not_false, Bool.true_and, Bool.false_and, Bool.and_true, Bool.and_false, Bool.or_true, Bool.or_false, Bool.true_or, Bool.false_or, Bool.not_eq_true', decide_true, decide_false, decide_eq_true_eq, if_true, if_false, ite_self, beq_self_eq_true, false_implies, true_implies, forall_const, eq_self, reduceCtorEq, ↓reduceIte, Nat.reduceLT, Nat.reduceLeDiff, Nat.reduceEqDiff, Nat.reduceAdd, Nat.reduceSub, Nat.reduceMul, Nat.reduceBEq, Nat.reduceBNe, Nat.zero_add, Nat.add_zero, Nat.sub_zero, Nat.zero_le, Nat.le_refl, Nat.add_sub_cancel_left, Nat.zero_mul, Nat.mul_one, Nat.one_mul, Int.toNat_natCast, Int.reduceLT, Int.reduceLE, Int.reduceEq, Int.reduceAdd, Int.reduceSub, Int.reduceMul, Int.reduceToNat, Int.reduceNeg, beq_true, beq_false, Nat.add_eq_zero_iff, Nat.reduceDiv, Nat.reduceMod, ne_eq, List.cons_ne_nil, exists_false, reduceBEq, exists_eq_left', exists_eq_left, Vle_self, ty2, ty3, ty4, ty5, ty6, ty7, ty8, ty9, ty10, ty11, ty12, ty13, ty14, ty15, ty16, ty17, ty18, ty19, ty20, ty21, ty22, ty23, ty24, ty25, ty26, ty27, ty30, ty33, ty34, ty35, ty36, ty45, ty46, ty48, ty49, ty50, ty51, ty52, ty53, ty54, ty59, ty60, ty61, ty62, ty63, ty71, ty72, ty73, ty81, ty98, ty99, ty100, ty111, ty112, ty116, ty117, ty120, ty121, ty122, ty123, ty124, ty126, ty127, ty129, ty130, ty131, ty134, List.replicate_zero, Int.cast_ofNat_Int, unbv_bv, bv_length, gt_iff_lt, ge_iff_le, wrap_i64, wrap_u8, wrap_u32, wrap_u64, wrap_i32, rem_pos, quo_pos, bne, if_pos, if_neg, n1, n2, n3, m1, m2, m3, cx, c2, c3, z1, w1, w2, s1, s2, s3, s4, s5, s6, s7, s8, s9, u1, u2, u3, u4, u5, List.length_map]
      exact ⟨_, base_fin hc1 c2 c0 (by omega) (by omega) (by omega) hl4, fun _ => ⟨by simp only [List.length_append, List.length_cons, List.length_nil]; omega, .inr ⟨nc, by omega, by simp only; omega, by simp only [List.map_append]; rfl, by simp only; rw [upd_ne _ _ (by omega), upd_same]⟩⟩⟩
end Go.Proofs.Ytkcapmodgkficaa
