/- Transactions: taking bytes. -/
import Derived.Test.YtkcapmodgkficaaTxQ
namespace Go.Proofs.Ytkcapmodgkficaa
open Go.Vx Go.Fl
set_option maxRecDepth 100000
set_option maxHeartbeats 4000000
set_option linter.unusedSimpArgs false
set_option linter.unusedVariables false

/-- A reader: what is left, what went wrong. -/
abbrev RdT := List UInt8 × Nat
def rcell (R : RdT) : Option Ob := some (.cells [.sl 1 (bv R.1) .no, .i .i64 (R.2 : Int)])
def takeP (n : Nat) (R : RdT) : Option (List UInt8) × RdT :=
  if R.2 = 0 then (if R.1.length < n then (none, (R.1, 1)) else (some (R.1.take n), (R.1.drop n, R.2))) else (none, R)
def takeV : Option (List UInt8) → V
  | none => .sl 0 [] .clip
  | some l => .sl 1 (bv l) .no
def setR (σ : St) (o : Nat) (R : RdT) : St := ⟨upd σ.h o (rcell R), σ.n⟩
theorem setR_self {σ : St} {o : Nat} {R : RdT} (h : σ.h o = rcell R) : setR σ o R = σ := by
  unfold setR
  have : upd σ.h o (rcell R) = σ.h := by
    funext p
    by_cases hp : p = o
    · subst hp; rw [upd_same, h]
    · rw [upd_ne _ _ hp]
  rw [this]
theorem setR_at (σ : St) (o : Nat) (R : RdT) : (setR σ o R).h o = rcell R := upd_same _ _ _
theorem setR_ne (σ : St) {o p : Nat} (R : RdT) (h : p ≠ o) : (setR σ o R).h p = σ.h p := upd_ne _ _ h
theorem setR_n (σ : St) (o : Nat) (R : RdT) : (setR σ o R).n = σ.n := rfl

theorem take_ok (σ : St) (o : Nat) (R : RdT) (n : Nat) (hn : n ≤ 1000000) (hR : σ.h o = rcell R) :
    VRef Try.prog 44 [.ptr o 0, .i .i64 (n : Int)] σ (fun v σ' => v = takeV (takeP n R).1 ∧ σ' = setR σ o (takeP n R).2) := by
  obtain ⟨L, e⟩ := R
  have hR' : σ.h o = some (.cells [.sl 1 (bv L) .no, .i .i64 (e : Int)]) := hR
  obtain ⟨h, m⟩ := σ
  simp only at hR'
  by_cases he : e = 0
  · have he' : (e : Int) = 0 := by omega
    by_cases hl : L.length < n
    · have hl' : (L.length : Int) < (n : Int) := by omega
      have hT : takeP n (L, e) = (none, (L, 1)) := by simp [takeP, he, hl]
      rw [hT]
      refine ref_of_body (tyOf_ok _) mixed Try.func44 rfl rfl (fun _ => 0) (by kernel_rfl) (fun hwf => zin ?_)
      dsimp only [Try.f44]

      simp (maxSteps := 1000000) (dsimp := false) (disch := omega) only [zlate_0, zlate_1, zlates_nil, zlates_cons, late1, zld_0, zld_4, ziw_skip, ziw_f, ziw_t, ziw_seq, ziw_cond, ziw_block, ziw_exit, ziw_ret, ziops_nil, ziops_cons, zistep_eq, zyfn_yld, zyfn_fn, iret_n, iret_r, St0_eq, zwp_skip, zwp_region_f, zwp_region_t, zwp_seq, zwp_cond, zwp_block, zwp_exit, zwp_ret, znil_none, znil_some, nilTest_f, nilTest_t, nilOf, vnil, zops_nil, zops_none, zops_some, zstep_eq, zput_some, zput_none, zcond_t, zcond_f, zwant_t, zwant_f, zthen_some, zthen_none, zfn_fn, int_beq, int_bne, int_lt0, int_le0, wantedV, vop, veval, vprt, toVs, toV1, valloc, vbox, vstore, vload, vpart, vbuild, vfill, vblit, vlits, zeroElem, vmake, vbuiltin, vlen, vmms, vmm, vbinX, vagg, vbin, vint, vshift, BinOp.sh, vun, vconv, vslice, vbnd, vfaddr, vfield, viaddr, vindex, vext, vapp, vsrc, vgrow, vcopy, strip1, stripL, strip0, stripTL, strip, upd_at, initFr_at, St.new, St.put, St.tok, vrecv, hintOf, V.cells, V.isVal, V.one, TD.agg, varg1, vargs1, varg, vargs, flat1, flatL, flat0, flatTL, V.flat, V.free, vret_n, vret_r, rret_n, rret_r, vres, vresL, vseal, vcap, vcaps, updL, List.map_cons, List.map_nil, List.getElem?_cons_zero, List.getElem?_cons_succ, List.getElem?_nil, List.take_succ_cons, List.take_zero, List.take_nil, List.drop_succ_cons, List.drop_zero, List.drop_nil, List.nil_append, List.cons_append, List.append_nil, List.length_cons, List.length_nil, List.length_map, List.length_replicate, List.replicate_one, List.set_cons_zero, List.set_cons_succ, List.isEmpty_cons, List.isEmpty_nil, List.isEmpty_toArray, List.all_cons, List.all_nil, List.getElem?_toArray, List.append_assoc, Option.map_some, Option.map_none, Option.getD_some, Option.getD_none, Option.bind_some, Option.bind_none, Option.any_some, Option.any_none, Option.isSome_some, Option.isSome_none, Option.some.injEq, V.i.injEq, and_true, true_and, and_false, false_and, or_true, true_or, or_false, false_or, and_self, or_self, not_true_eq_false, not_false_eq_true, Bool.false_eq_true, Bool.not_true, Bool.not_false, Bool.true_and, Bool.false_and, Bool.and_true, Bool.and_false, Bool.or_true, Bool.or_false, Bool.true_or, Bool.false_or, Bool.not_eq_true', decide_true, decide_false, decide_eq_true_eq, if_true, if_false, ite_self, beq_self_eq_true, false_implies, true_implies, forall_const, eq_self, reduceCtorEq, ↓reduceIte, Nat.reduceLT, Nat.reduceLeDiff, Nat.reduceEqDiff, Nat.reduceAdd, Nat.reduceSub, Nat.reduceMul, Nat.reduceBEq, Nat.reduceBNe, Nat.zero_add, Nat.add_zero, Nat.sub_zero, Nat.zero_le, Nat.le_refl, Nat.add_sub_cancel_left, Nat.zero_mul, Nat.mul_one, Nat.one_mul, Int.toNat_natCast, Int.reduceLT, Int.reduceLE, Int.reduceEq, Int.reduceAdd, Int.reduceSub, Int.reduceMul, Int.reduceToNat, Int.reduceNeg, beq_true, beq_false, Nat.add_eq_zero_iff, Nat.reduceDiv, Nat.reduceMod, ne_eq, List.cons_ne_nil, exists_false, reduceBEq, exists_eq_left', exists_eq_left, Vle_self, ty2, ty3, ty4, ty5, ty6, ty7, ty8, ty9, ty10, ty11, ty12, ty13, ty14, ty15, ty16, ty17, ty18, ty19, ty20, ty21, ty22, ty23, ty24, ty25, ty26, ty27, ty30, ty33, ty34, ty35, ty36, ty45, ty46, ty48, ty49, ty50, ty51, ty52, ty53, ty54, ty59, ty60, ty61, ty62, ty63, ty71, ty72, ty73, ty81, ty98, ty99, ty100, ty111, ty112, ty116, ty117, ty120, ty121, ty122, ty123, ty124, ty126, ty127, ty129, ty130, ty131, ty134, List.replicate_zero, Int.cast_ofNat_Int, unbv_bv, bv_length, gt_iff_lt, ge_iff_le, wrap_i64, wrap_u8, wrap_u32, wrap_u64, wrap_i32, rem_pos, quo_pos, bne, if_pos, if_neg, hR', he', hl', if_pos he', Try.f44]
      exact ⟨rfl, rfl⟩
    · have hl' : ¬ (L.length : Int) < (n : Int) := by omega
      have hT : takeP n (L, e) = (some (L.take n), (L.drop n, e)) := by simp [takeP, he, hl]
      rw [hT]
      refine ref_of_body (tyOf_ok _) mixed Try.func44 rfl rfl (fun _ => 0) (by kernel_rfl) (fun hwf => zin ?_)
      dsimp only [Try.f44]

      simp (maxSteps := 1000000) (dsimp := false) (disch := omega) only [zlate_0, zlate_1, zlates_nil, zlates_cons, late1, zld_0, zld_4, ziw_skip, ziw_f, ziw_t, ziw_seq, ziw_cond, ziw_block, ziw_exit, ziw_ret, ziops_nil, ziops_cons, zistep_eq, zyfn_yld, zyfn_fn, iret_n, iret_r, St0_eq, zwp_skip, zwp_region_f, zwp_region_t, zwp_seq, zwp_cond, zwp_block, zwp_exit, zwp_ret, znil_none, znil_some, nilTest_f, nilTest_t, nilOf, vnil, zops_nil, zops_none, zops_some, zstep_eq, zput_some, zput_none, zcond_t, zcond_f, zwant_t, zwant_f, zthen_some, zthen_none, zfn_fn, int_beq, int_bne, int_lt0, int_le0, wantedV, vop, veval, vprt, toVs, toV1, valloc, vbox, vstore, vload, vpart, vbuild, vfill, vblit, vlits, zeroElem, vmake, vbuiltin, vlen, vmms, vmm, vbinX, vagg, vbin, vint, vshift, BinOp.sh, vun, vconv, vslice, vbnd, vfaddr, vfield, viaddr, vindex, vext, vapp, vsrc, vgrow, vcopy, strip1, stripL, strip0, stripTL, strip, upd_at, initFr_at, St.new, St.put, St.tok, vrecv, hintOf, V.cells, V.isVal, V.one, TD.agg, varg1, vargs1, varg, vargs, flat1, flatL, flat0, flatTL, V.flat, V.free, vret_n, vret_r, rret_n, rret_r, vres, vresL, vseal, vcap, vcaps, updL, List.map_cons, List.map_nil, List.getElem?_cons_zero, List.getElem?_cons_succ, List.getElem?_nil, List.take_succ_cons, List.take_zero, List.take_nil, List.drop_succ_cons, List.drop_zero, List.drop_nil, List.nil_append, List.cons_append, List.append_nil, List.length_cons, List.length_nil, List.length_map, List.length_replicate, List.replicate_one, List.set_cons_zero, List.set_cons_succ, List.isEmpty_cons, List.isEmpty_nil, List.isEmpty_toArray, List.all_cons, List.all_nil, List.getElem?_toArray, List.append_assoc, Option.map_some, Option.map_none, Option.getD_some, Option.getD_none, Option.bind_some, Option.bind_none, Option.any_some, Option.any_none, Option.isSome_some, Option.isSome_none, Option.some.injEq, V.i.injEq, and_true, true_and, and_false, false_and, or_true, true_or, or_false, false_or, and_self, or_self, not_true_eq_false, not_false_eq_true, Bool.false_eq_true, Bool.not_true, Bool.not_false, Bool.true_and, Bool.false_and, Bool.and_true, Bool.and_false, Bool.or_true, Bool.or_false, Bool.true_or, Bool.false_or, Bool.not_eq_true', decide_true, decide_false, decide_eq_true_eq, if_true, if_false, ite_self, beq_self_eq_true, false_implies, true_implies, forall_const, eq_self, reduceCtorEq, ↓reduceIte, Nat.reduceLT, Nat.reduceLeDiff, Nat.reduceEqDiff, Nat.reduceAdd, Nat.reduceSub, Nat.reduceMul, Nat.reduceBEq, Nat.reduceBNe, Nat.zero_add, Nat.add_zero, Nat.sub_zero, Nat.zero_le, Nat.le_refl, Nat.add_sub_cancel_left, Nat.zero_mul, Nat.mul_one, Nat.one_mul, Int.toNat_natCast, Int.reduceLT, Int.reduceLE, Int.reduceEq, Int.reduceAdd, Int.reduceSub, Int.reduceMul, Int.reduceToNat, Int.reduceNeg, beq_true, beq_false, Nat.add_eq_zero_iff, Nat.reduceDiv, Nat.reduceMod, ne_eq, List.cons_ne_nil, exists_false, reduceBEq, exists_eq_left', exists_eq_left, Vle_self, ty2, ty3, ty4, ty5, ty6, ty7, ty8, ty9, ty10, ty11, ty12, ty13, ty14, ty15, ty16, ty17, ty18, ty19, ty20, ty21, ty22, ty23, ty24, ty25, ty26, ty27, ty30, ty33, ty34, ty35, ty36, ty45, ty46, ty48, ty49, ty50, ty51, ty52, ty53, ty54, ty59, ty60, ty61, ty62, ty63, ty71, ty72, ty73, ty81, ty98, ty99, ty100, ty111, ty112, ty116, ty117, ty120, ty121, ty122, ty123, ty124, ty126, ty127, ty129, ty130, ty131, ty134, List.replicate_zero, Int.cast_ofNat_Int, unbv_bv, bv_length, gt_iff_lt, ge_iff_le, wrap_i64, wrap_u8, wrap_u32, wrap_u64, wrap_i32, rem_pos, quo_pos, bne, if_pos, if_neg, hR', he', hl', Try.f44]
      refine ⟨by rw [bv_take]; rfl, ?_⟩
      have e1 : List.take (L.length - n) (List.drop n (bv L)) = bv (L.drop n) := by
        rw [List.take_of_length_le (by simp), bv_drop]
      subst he
      rw [e1]; rfl
  · have he' : ¬ (e : Int) = 0 := by omega
    have hT : takeP n (L, e) = (none, (L, e)) := by simp [takeP, he]
    rw [hT, setR_self hR]
    refine ref_of_body (tyOf_ok _) mixed Try.func44 rfl rfl (fun _ => 0) (by kernel_rfl) (fun hwf => zin ?_)
    dsimp only [Try.f44]

    simp (maxSteps := 1000000) (dsimp := false) (disch := omega) only [zlate_0, zlate_1, zlates_nil, zlates_cons, late1, zld_0, zld_4, ziw_skip, ziw_f, ziw_t, ziw_seq, ziw_cond, ziw_block, ziw_exit, ziw_ret, ziops_nil, ziops_cons, zistep_eq, zyfn_yld, zyfn_fn, iret_n, iret_r, St0_eq, zwp_skip, zwp_region_f, zwp_region_t, zwp_seq, zwp_cond, zwp_block, zwp_exit, zwp_ret, znil_none, znil_some, nilTest_f, nilTest_t, nilOf, vnil, zops_nil, zops_none, zops_some, zstep_eq, zput_some, zput_none, zcond_t, zcond_f, zwant_t, zwant_f, zthen_some, zthen_none, zfn_fn, int_beq, int_bne, int_lt0, int_le0, wantedV, vop, veval, vprt, toVs, toV1, valloc, vbox, vstore, vload, vpart, vbuild, vfill, vblit, vlits, zeroElem, vmake, vbuiltin, vlen, vmms, vmm, vbinX, vagg, vbin, vint, vshift, BinOp.sh, vun, vconv, vslice, vbnd, vfaddr, vfield, viaddr, vindex, vext, vapp, vsrc, vgrow, vcopy, strip1, stripL, strip0, stripTL, strip, upd_at, initFr_at, St.new, St.put, St.tok, vrecv, hintOf, V.cells, V.isVal, V.one, TD.agg, varg1, vargs1, varg, vargs, flat1, flatL, flat0, flatTL, V.flat, V.free, vret_n, vret_r, rret_n, rret_r, vres, vresL, vseal, vcap, vcaps, updL, List.map_cons, List.map_nil, List.getElem?_cons_zero, List.getElem?_cons_succ, List.getElem?_nil, List.take_succ_cons, List.take_zero, List.take_nil, List.drop_succ_cons, List.drop_zero, List.drop_nil, List.nil_append, List.cons_append, List.append_nil, List.length_cons, List.length_nil, List.length_map, List.length_replicate, List.replicate_one, List.set_cons_zero, List.set_cons_succ, List.isEmpty_cons, List.isEmpty_nil, List.isEmpty_toArray, List.all_cons, List.all_nil, List.getElem?_toArray, List.append_assoc, Option.map_some, Option.map_none, Option.getD_some, Option.getD_none, Option.bind_some, Option.bind_none, Option.any_some, Option.any_none, Option.isSome_some, Option.isSome_none, Option.some.injEq, V.i.injEq, and_true, true_and, and_false, false_and, or_true, true_or, or_false, false_or, and_self, or_self, not_true_eq_false, not_false_eq_true, Bool.false_eq_true, Bool.not_true, Bool.not_false, Bool.true_and, Bool.false_and, Bool.and_true, Bool.and_false, Bool.or_true, Bool.or_false, Bool.true_or, Bool.false_or, Bool.not_eq_true', decide_true, decide_false, decide_eq_true_eq, if_true, if_false, ite_self, beq_self_eq_true, false_implies, true_implies, forall_const, eq_self, reduceCtorEq, ↓reduceIte, Nat.reduceLT, Nat.reduceLeDiff, Nat.reduceEqDiff, Nat.reduceAdd, Nat.reduceSub, Nat.reduceMul, Nat.reduceBEq, Nat.reduceBNe, Nat.zero_add, Nat.add_zero, Nat.sub_zero, Nat.zero_le, Nat.le_refl, Nat.add_sub_cancel_left, Nat.zero_mul, Nat.mul_one, Nat.one_mul, Int.toNat_natCast, Int.reduceLT, Int.reduceLE, Int.reduceEq, Int.reduceAdd, Int.reduceSub, Int.reduceMul, Int.reduceToNat, Int.reduceNeg, beq_true, beq_false, Nat.add_eq_zero_iff, Nat.reduceDiv, Nat.reduceMod, ne_eq, List.cons_ne_nil, exists_false, reduceBEq, exists_eq_left', exists_eq_left, Vle_self, ty2, ty3, ty4, ty5, ty6, ty7, ty8, ty9, ty10, ty11, ty12, ty13, ty14, ty15, ty16, ty17, ty18, ty19, ty20, ty21, ty22, ty23, ty24, ty25, ty26, ty27, ty30, ty33, ty34, ty35, ty36, ty45, ty46, ty48, ty49, ty50, ty51, ty52, ty53, ty54, ty59, ty60, ty61, ty62, ty63, ty71, ty72, ty73, ty81, ty98, ty99, ty100, ty111, ty112, ty116, ty117, ty120, ty121, ty122, ty123, ty124, ty126, ty127, ty129, ty130, ty131, ty134, List.replicate_zero, Int.cast_ofNat_Int, unbv_bv, bv_length, gt_iff_lt, ge_iff_le, wrap_i64, wrap_u8, wrap_u32, wrap_u64, wrap_i32, rem_pos, quo_pos, bne, if_pos, if_neg, hR', he', Try.f44]
    rfl
end Go.Proofs.Ytkcapmodgkficaa
