/- Transactions: the law's example; the law TxOnce. -/
import Derived.Test.YtkcapmodgkficaaTxB
import Derived.Test.YtkcapmodgkficaaV21
namespace Go.Proofs.Ytkcapmodgkficaa
open Go.Vx Go.Fl
set_option maxRecDepth 100000
set_option maxHeartbeats 4000000
set_option linter.unusedSimpArgs false
set_option linter.unusedVariables false

def T0 : TxT := (0, [(List.replicate 32 0, 0, [], 0)], [(0, [])], 0)
theorem T0_ok : TxOk T0 := ⟨by decide, fun x hx => by
  simp [T0] at hx; subst hx; exact ⟨rfl, Nat.zero_le _, Nat.zero_le _⟩, fun y hy => by
  simp [T0] at hy; subst hy; exact Nat.zero_le _, by decide⟩
theorem T0_sane : saneT T0 = true := by decide +kernel
theorem T0_len : (txB T0).length = 60 := by decide +kernel
theorem T0_v : tv T0 = .agg [.i .u32 0, .sl 35 [.agg (List.replicate 32 (.i .u8 0) ++ [.i .u32 0, .sl 1 [] .no, .i .u32 0])] .no, .sl 2 [.agg [.i .u64 0, .sl 1 [] .no]] .no, .i .u32 0] := by
  simp [tv, T0, iv, icell, ov, bv]
theorem awake_ok : VPure Try.prog 7 [] (.b true) := by
  have P := tput_ok T0 T0_ok T0_sane
  have G := tget_ok (txB T0) (by rw [T0_len]; decide)
  have S := saneT_ok T0 T0_ok
  have e := getT_put T0 T0_ok T0_sane []
  rw [List.append_nil] at e
  rw [e] at G
  rw [T0_sane] at S
  have hB := T0_len
  simp only [hB] at G
  rw [T0_v] at P G S
  have P := P.sub (args' := [.agg [.i .u32 0, .sl 35 [.agg (List.replicate 32 (.i .u8 0) ++ [.i .u32 0, .sl 0 [] .no, .i .u32 0])] .no, .sl 2 [.agg [.i .u64 0, .sl 0 [] .no]] .no, .i .u32 0]])
    (.cons (.agg (.cons (.refl _) (.cons (.sl (.cons (.app (.refl _) (.cons (.refl _) (.cons (.nil _ _ _) (.cons (.refl _) .nil)))) .nil)) (.cons (.sl (.cons (.cons (.refl _) (.cons (.nil _ _ _) .nil)) .nil)) (.cons (.refl _) .nil))))) .nil)
  generalize txB T0 = B at *
  simp only [List.replicate_succ, List.replicate_zero, List.cons_append, List.nil_append] at P G S
  have hB' : (B.length : Int) = 60 := by omega
  refine pure_of_body (tyOf_ok _) mixed Try.func7 rfl rfl (fun _ => 0) (by kernel_rfl) (zin ?_)
  dsimp only [Try.f7]

  simp (maxSteps := 1000000) (dsimp := false) (disch := omega) only [zwp_region_f, zwp_seq, znil_none, nilTest_t, nilOf, zops_nil, zops_none, zstep_eq, zput_some, zthen_some, zfn_fn, vop, veval, vprt, toVs, toV1, vbuild, vfill, vblit, vlits, zeroElem, strip1, stripL, strip0, upd_at, hintOf, V.cells, V.isVal, TD.agg, varg1, varg, vargs, List.map_cons, List.map_nil, List.getElem?_cons_zero, List.getElem?_cons_succ, List.take_succ_cons, List.take_zero, List.drop_succ_cons, List.drop_zero, List.nil_append, List.cons_append, List.append_nil, List.length_cons, List.length_nil, List.replicate_one, List.set_cons_zero, Option.map_some, and_self, Bool.or_false, eq_self, ↓reduceIte, Nat.reduceLT, Nat.reduceLeDiff, Nat.reduceEqDiff, Nat.reduceAdd, Nat.zero_add, Nat.one_mul, ty33, ty34, ty36, ty59, ty60]
  refine zcall_pure (P) (by first | exact fun h => Bool.noConfusion h | exact fun _ => rfl | exact fun _ => free_bv _ _ _) ?_
  simp (maxSteps := 1000000) (dsimp := false) (disch := omega) only [zwp_region_f, zwp_seq, znil_none, nilTest_t, nilOf, zops_nil, zops_none, zstep_eq, zput_some, zthen_some, zfn_fn, vop, veval, vext, strip1, strip0, upd_at, vrecv, hintOf, varg1, varg, vargs, List.map_cons, List.map_nil, List.getElem?_cons_zero, List.getElem?_cons_succ, List.append_nil, Option.map_some, Bool.or_false, eq_self, ↓reduceIte, Nat.reduceEqDiff]
  refine zcall_pure (G) (by first | exact fun h => Bool.noConfusion h | exact fun _ => rfl | exact fun _ => free_bv _ _ _) ?_
  simp (maxSteps := 1000000) (dsimp := false) (disch := omega) only [zwp_region_f, zwp_seq, znil_none, nilTest_t, nilOf, zops_nil, zops_none, zops_some, zstep_eq, zput_some, zput_none, zwant_t, zthen_some, zfn_fn, wantedV, vop, veval, toVs, toV1, valloc, vstore, vload, vpart, vbuiltin, vlen, vbinX, vbin, vint, BinOp.sh, vfaddr, vext, strip1, stripL, strip0, upd_at, St.new, St.put, vrecv, hintOf, V.cells, V.isVal, TD.agg, varg1, varg, vargs, List.map_cons, List.map_nil, List.getElem?_cons_zero, List.getElem?_cons_succ, List.take_succ_cons, List.take_zero, List.take_nil, List.drop_succ_cons, List.drop_zero, List.drop_nil, List.nil_append, List.append_nil, List.length_cons, List.length_nil, List.getElem?_toArray, Option.map_some, and_self, Bool.false_eq_true, Bool.or_false, beq_self_eq_true, eq_self, reduceCtorEq, ↓reduceIte, Nat.reduceEqDiff, Nat.reduceAdd, Nat.zero_add, Nat.le_refl, ty3, ty27, ty30, ty33, ty36, Int.cast_ofNat_Int, bv_length, bv_length, hB']
  refine zcall_pure (S) (by first | exact fun h => Bool.noConfusion h | exact fun _ => rfl | exact fun _ => free_bv _ _ _) ?_
  simp (maxSteps := 1000000) (dsimp := false) (disch := omega) only [zwp_ret, znil_none, nilTest_t, nilOf, zops_nil, zops_none, zstep_eq, zput_some, zthen_some, vop, veval, strip1, strip0, strip, upd_at, vrecv, vret_r, vres, vresL, vseal, Option.map_some, Option.bind_some, Option.some.injEq, eq_self, ↓reduceIte, Nat.reduceEqDiff, exists_eq_left', Vle_self]
theorem once_ok (b : List UInt8) : VPure Try.prog 4 [.sl 1 (bv b) .no] (.b true) := by
  refine pure_of_body (tyOf_ok _) mixed Try.func4 rfl rfl (fun _ => 0) (by kernel_rfl) (zin ?_)
  dsimp only [Try.f4]
  by_cases hl : b.length ≤ 4000
  · have hl' : ¬ (4000 : Int) < (b.length : Int) := by omega
    have G := tget_ok b (by omega)
    by_cases he : (getT b).2.2 = 0
    · obtain ⟨hT, hS, hn, hB⟩ := getT_once he
      have P := tput_ok (getT b).1 hT hS
      have S := saneT_ok (getT b).1 hT
      rw [hB] at P
      rw [hS] at S
      have hmin : min (getT b).2.1 b.length = (getT b).2.1 := by omega
      rw [he] at G
      generalize getT b = T at *
      obtain ⟨⟨ver, ins, outs, lock⟩, m, e⟩ := T
      simp only at *
      have hm' : (m : Int) ≤ (b.length : Int) := by omega
      have htk : List.take m (bv b) = bv (b.take m) := by simp [bv]

      simp (maxSteps := 1000000) (dsimp := false) (disch := omega) only [zwp_region_f, zwp_seq, znil_none, nilTest_t, nilOf, zops_nil, zops_none, zstep_eq, zput_some, zthen_some, zfn_fn, vop, veval, toVs, toV1, hintOf, vargs, List.map_nil, List.append_nil]
      refine zcall_pure (awake_ok) (by first | exact fun h => Bool.noConfusion h | exact fun _ => rfl | exact fun _ => free_bv _ _ _) ?_
      simp (maxSteps := 1000000) (dsimp := false) (disch := omega) only [zwp_skip, zwp_region_f, zwp_seq, zwp_cond, znil_none, nilTest_t, nilOf, zops_nil, zops_none, zstep_eq, zput_some, zcond_f, zthen_some, zfn_fn, vop, veval, toVs, toV1, vbuiltin, vlen, vbinX, vbin, vint, BinOp.sh, strip1, strip0, upd_at, initFr_at, vrecv, hintOf, varg1, varg, vargs, List.map_cons, List.map_nil, List.getElem?_cons_zero, List.append_nil, Option.map_some, Option.getD_some, Bool.false_eq_true, Bool.or_false, decide_false, eq_self, reduceCtorEq, ↓reduceIte, ty3, ty27, bv_length, gt_iff_lt, hl', bv_length]
      refine zcall_pure (G) (by first | exact fun h => Bool.noConfusion h | exact fun _ => rfl | exact fun _ => free_bv _ _ _) ?_
      simp (maxSteps := 1000000) (dsimp := false) (disch := omega) only [zwp_skip, zwp_region_f, zwp_seq, zwp_cond, znil_none, nilTest_t, nilOf, zops_nil, zops_none, zstep_eq, zput_some, zput_none, zcond_f, zthen_some, zfn_fn, vop, veval, toVs, toV1, valloc, vstore, vload, vpart, vbinX, vbin, vint, BinOp.sh, vext, strip1, stripL, strip0, upd_at, St.new, St.put, vrecv, hintOf, V.cells, V.isVal, TD.agg, varg1, varg, vargs, List.map_cons, List.map_nil, List.getElem?_cons_zero, List.getElem?_cons_succ, List.take_succ_cons, List.take_zero, List.take_nil, List.drop_succ_cons, List.drop_zero, List.drop_nil, List.nil_append, List.append_nil, List.length_cons, List.length_nil, Option.map_some, and_self, Bool.false_eq_true, Bool.not_true, Bool.or_false, beq_self_eq_true, eq_self, ↓reduceIte, Nat.reduceEqDiff, Nat.reduceAdd, Nat.zero_add, Nat.le_refl, ty30, ty36, Int.cast_ofNat_Int, bne, tv]
      refine zcall_pure (P) (by first | exact fun h => Bool.noConfusion h | exact fun _ => rfl | exact fun _ => free_bv _ _ _) ?_
      simp (maxSteps := 1000000) (dsimp := false) (disch := omega) only [zwp_region_t, zwp_seq, znil_none, nilTest_f, nilTest_t, nilOf, zops_nil, zops_none, zops_some, zstep_eq, zput_some, zwant_t, zthen_some, zfn_fn, wantedV, vop, veval, toVs, toV1, vload, vpart, vbuiltin, vlen, vbinX, vbin, vint, BinOp.sh, vext, strip1, stripL, strip0, upd_at, initFr_at, vrecv, hintOf, TD.agg, varg1, varg, vargs, List.map_cons, List.map_nil, List.getElem?_cons_zero, List.getElem?_cons_succ, List.take_succ_cons, List.take_nil, List.drop_zero, List.append_nil, List.length_cons, List.length_nil, List.getElem?_toArray, Option.map_some, Option.getD_some, Bool.false_eq_true, Bool.or_false, decide_true, beq_self_eq_true, eq_self, reduceCtorEq, ↓reduceIte, Nat.reduceEqDiff, Nat.reduceAdd, Nat.zero_add, Nat.le_refl, ty3, ty27, ty30, ty36, bv_length, bv_length, hm']
      refine zcall_pure (S) (by first | exact fun h => Bool.noConfusion h | exact fun _ => rfl | exact fun _ => free_bv _ _ _) ?_
      simp (maxSteps := 1000000) (dsimp := false) (disch := omega) only [zlate_0, zwp_ret, znil_none, nilTest_f, zops_nil, zops_none, zops_some, zstep_eq, zput_some, zwant_t, zthen_some, int_lt0, wantedV, vop, veval, vbinX, vbin, vconv, vslice, vbnd, strip1, strip0, strip, upd_at, initFr_at, vrecv, vret_r, vres, vresL, vseal, List.getElem?_cons_zero, List.getElem?_cons_succ, List.drop_zero, List.getElem?_toArray, Option.map_some, Option.map_none, Option.getD_some, Option.bind_some, Option.isSome_some, Option.isSome_none, Option.some.injEq, and_true, true_and, and_false, false_and, true_or, and_self, or_self, Bool.false_eq_true, ite_self, beq_self_eq_true, false_implies, eq_self, reduceCtorEq, ↓reduceIte, Nat.reduceEqDiff, Nat.sub_zero, Nat.zero_le, Nat.le_refl, Int.toNat_natCast, exists_eq_left', Vle_self, ty5, ty9, ty27, unbv_bv, bv_length, if_pos, bv_length, htk]
    · have E := getT_err he
      have hne : ¬ ((getT b).2.2 : Int) = 0 := by omega
      rw [E] at G
      generalize (getT b).2.2 = e at *

      simp (maxSteps := 1000000) (dsimp := false) (disch := omega) only [zwp_region_f, zwp_seq, znil_none, nilTest_t, nilOf, zops_nil, zops_none, zstep_eq, zput_some, zthen_some, zfn_fn, vop, veval, toVs, toV1, hintOf, vargs, List.map_nil, List.append_nil]
      refine zcall_pure (awake_ok) (by first | exact fun h => Bool.noConfusion h | exact fun _ => rfl | exact fun _ => free_bv _ _ _) ?_
      simp (maxSteps := 1000000) (dsimp := false) (disch := omega) only [zwp_skip, zwp_region_f, zwp_seq, zwp_cond, znil_none, nilTest_t, nilOf, zops_nil, zops_none, zstep_eq, zput_some, zcond_f, zthen_some, zfn_fn, vop, veval, toVs, toV1, vbuiltin, vlen, vbinX, vbin, vint, BinOp.sh, strip1, strip0, upd_at, initFr_at, vrecv, hintOf, varg1, varg, vargs, List.map_cons, List.map_nil, List.getElem?_cons_zero, List.append_nil, Option.map_some, Option.getD_some, Bool.false_eq_true, Bool.or_false, decide_false, eq_self, reduceCtorEq, ↓reduceIte, ty3, ty27, bv_length, gt_iff_lt, hl', bv_length]
      refine zcall_pure (G) (by first | exact fun h => Bool.noConfusion h | exact fun _ => rfl | exact fun _ => free_bv _ _ _) ?_
      simp (maxSteps := 1000000) (dsimp := false) (disch := omega) only [zwp_region_f, zwp_seq, zwp_cond, zwp_ret, znil_none, nilTest_t, nilOf, zops_nil, zops_none, zops_some, zstep_eq, zput_some, zput_none, zcond_t, zwant_t, zthen_some, int_beq, wantedV, vop, veval, toVs, toV1, valloc, vstore, vload, vpart, vbuiltin, vlen, vbinX, vbin, vint, BinOp.sh, vfaddr, vext, strip1, strip0, strip, upd_at, St.new, St.put, vrecv, V.cells, V.isVal, TD.agg, vret_r, vres, vresL, vseal, List.map_cons, List.map_nil, List.getElem?_cons_zero, List.getElem?_cons_succ, List.take_zero, List.drop_succ_cons, List.drop_nil, List.nil_append, List.append_nil, List.length_cons, List.length_nil, List.getElem?_toArray, Option.map_some, Option.bind_some, Option.some.injEq, and_self, Bool.false_eq_true, Bool.not_false, decide_false, beq_self_eq_true, eq_self, reduceCtorEq, ↓reduceIte, Nat.reduceEqDiff, Nat.reduceAdd, Nat.zero_add, Nat.le_refl, exists_eq_left', Vle_self, ty3, ty30, ty33, ty36, Int.cast_ofNat_Int, bne, tv, hne]
  · have hl' : (4000 : Int) < (b.length : Int) := by omega

    simp (maxSteps := 1000000) (dsimp := false) (disch := omega) only [zwp_region_f, zwp_seq, znil_none, nilTest_t, nilOf, zops_nil, zops_none, zstep_eq, zput_some, zthen_some, zfn_fn, vop, veval, toVs, toV1, hintOf, vargs, List.map_nil, List.append_nil]
    refine zcall_pure (awake_ok) (by first | exact fun h => Bool.noConfusion h | exact fun _ => rfl | exact fun _ => free_bv _ _ _) ?_
    simp (maxSteps := 1000000) (dsimp := false) (disch := omega) only [zwp_region_f, zwp_seq, zwp_cond, zwp_ret, znil_none, nilTest_t, nilOf, zops_nil, zops_none, zstep_eq, zput_some, zcond_t, zthen_some, vop, veval, toVs, toV1, vbuiltin, vlen, vbinX, vbin, vint, BinOp.sh, strip1, strip0, strip, upd_at, initFr_at, vrecv, vret_r, vres, vresL, vseal, List.map_cons, List.map_nil, List.getElem?_cons_zero, Option.map_some, Option.getD_some, Option.bind_some, Option.some.injEq, Bool.false_eq_true, decide_true, eq_self, reduceCtorEq, ↓reduceIte, Nat.reduceEqDiff, exists_eq_left', Vle_self, ty3, ty27, bv_length, gt_iff_lt, hl', bv_length]
end Go.Proofs.Ytkcapmodgkficaa
