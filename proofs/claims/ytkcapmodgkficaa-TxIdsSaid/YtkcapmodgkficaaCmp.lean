/- Compact numbers, on values without memory. -/
import Derived.Test.YtkcapmodgkficaaTab
import Derived.Test.YtkcapmodgkficaaV20
import Derived.Test.YtkcapmodgkficaaCompactSpec
namespace Go.Proofs.Ytkcapmodgkficaa
open Go.Vx Go.Fl
set_option maxRecDepth 100000
set_option maxHeartbeats 1000000
set_option linter.unusedSimpArgs false
set_option linter.unusedVariables false

theorem bclone_ok (l : List UInt8) (z : Nat) (hz : z = 1 ∨ l = []) (hl : l.length ≤ 100000000) : VPure Try.prog 38 [.sl z (bv l) .no] (.sl 1 (bv l) (.own 5)) := by
  have hz' : (z = 1 ∨ bv l = []) := by
    rcases hz with h | h
    · exact .inl h
    · subst h; exact .inr rfl
  have hb1 : l.length * 32 ≤ 140737488355328 := by omega
  refine pure_of_body (tyOf_ok _) mixed Try.func38 rfl rfl (fun _ => 1) (by kernel_rfl) (zin ?_)
  dsimp only [Try.f38]

  simp (maxSteps := 1000000) (dsimp := false) (disch := omega) only [zwp_skip, zwp_region_f, zwp_seq, zwp_cond, zwp_ret, znil_none, znil_some, nilTest_t, nilOf, vnil, zops_nil, zops_none, zstep_eq, zput_some, zcond_t, zcond_f, zthen_some, vop, veval, toVs, toV1, vblit, vlits, zeroElem, vbuiltin, vapp, vsrc, vgrow, upd_at, initFr_at, St.tok, TD.agg, vret_r, vres, vresL, vseal, List.map_cons, List.map_nil, List.getElem?_cons_zero, List.nil_append, List.length_nil, List.isEmpty_nil, Option.map_some, Option.getD_some, Option.bind_some, Option.any_some, Option.some.injEq, and_true, true_and, and_self, or_self, Bool.false_eq_true, Bool.not_true, Bool.and_true, Bool.and_false, decide_true, eq_self, reduceCtorEq, ↓reduceIte, Nat.reduceLT, Nat.reduceEqDiff, Nat.reduceBEq, Nat.zero_add, Nat.zero_le, Nat.mul_one, exists_eq_left', Vle_self, ty5, ty27, List.replicate_zero, bv_length, if_pos, hz']
  intro h
  rw [h]
  exact .own _ _ _

theorem size_ok (n : Nat) : VPure Try.prog 39 [.i .u64 (n : Int)] (.i .i64 (sizeN n : Int)) := by
  refine pure_of_body (tyOf_ok _) mixed Try.func39 rfl rfl (fun _ => 0) (by kernel_rfl) (zin ?_)
  dsimp only [Try.f39]
  rcases sizeN_cases n with ⟨h, e⟩ | ⟨h1, h2, e⟩ | ⟨h1, h2, e⟩ | ⟨h1, e⟩
  · have a1 : ¬ (4294967295 : Int) < (n : Int) := by omega
    have a2 : ¬ (65535 : Int) < (n : Int) := by omega
    have a3 : ¬ (253 : Int) ≤ (n : Int) := by omega

    simp (maxSteps := 1000000) (dsimp := false) (disch := omega) only [zwp_skip, zwp_region_f, zwp_seq, zwp_cond, zwp_block, zwp_exit, zwp_ret, znil_none, nilTest_t, nilOf, zops_nil, zops_none, zstep_eq, zput_some, zcond_f, zthen_some, vop, veval, toVs, toV1, vbinX, vbin, vint, BinOp.sh, strip1, strip0, strip, upd_at, initFr_at, vret_r, vres, vresL, vseal, List.getElem?_cons_zero, Option.map_some, Option.getD_some, Option.bind_some, Option.some.injEq, Bool.false_eq_true, decide_false, eq_self, reduceCtorEq, ↓reduceIte, Nat.reduceEqDiff, exists_eq_left', Vle_self, ty48, Int.cast_ofNat_Int, gt_iff_lt, ge_iff_le, a1, a2, a3, e]
  · have a1 : ¬ (4294967295 : Int) < (n : Int) := by omega
    have a2 : ¬ (65535 : Int) < (n : Int) := by omega
    have a3 : (253 : Int) ≤ (n : Int) := by omega

    simp (maxSteps := 1000000) (dsimp := false) (disch := omega) only [zwp_skip, zwp_region_f, zwp_seq, zwp_cond, zwp_block, zwp_exit, zwp_ret, znil_none, nilTest_t, nilOf, zops_nil, zops_none, zstep_eq, zput_some, zcond_t, zcond_f, zthen_some, vop, veval, toVs, toV1, vbinX, vbin, vint, BinOp.sh, strip1, strip0, strip, upd_at, initFr_at, vret_r, vres, vresL, vseal, List.getElem?_cons_zero, Option.map_some, Option.getD_some, Option.bind_some, Option.some.injEq, Bool.false_eq_true, decide_true, decide_false, eq_self, reduceCtorEq, ↓reduceIte, Nat.reduceEqDiff, Int.reduceAdd, exists_eq_left', Vle_self, ty3, ty48, Int.cast_ofNat_Int, gt_iff_lt, ge_iff_le, wrap_i64, a1, a2, a3, e]
  · have a1 : ¬ (4294967295 : Int) < (n : Int) := by omega
    have a2 : (65535 : Int) < (n : Int) := by omega

    simp (maxSteps := 1000000) (dsimp := false) (disch := omega) only [zwp_skip, zwp_region_f, zwp_seq, zwp_cond, zwp_block, zwp_exit, zwp_ret, znil_none, nilTest_t, nilOf, zops_nil, zops_none, zstep_eq, zput_some, zcond_t, zcond_f, zthen_some, vop, veval, toVs, toV1, vbinX, vbin, vint, BinOp.sh, strip1, strip0, strip, upd_at, initFr_at, vret_r, vres, vresL, vseal, List.getElem?_cons_zero, Option.map_some, Option.getD_some, Option.bind_some, Option.some.injEq, Bool.false_eq_true, decide_true, decide_false, eq_self, reduceCtorEq, ↓reduceIte, Nat.reduceEqDiff, Int.reduceAdd, exists_eq_left', Vle_self, ty3, ty48, Int.cast_ofNat_Int, gt_iff_lt, wrap_i64, a1, a2, e]
  · have a1 : (4294967295 : Int) < (n : Int) := by omega

    simp (maxSteps := 1000000) (dsimp := false) (disch := omega) only [zwp_region_f, zwp_seq, zwp_cond, zwp_block, zwp_exit, zwp_ret, znil_none, nilTest_t, nilOf, zops_nil, zops_none, zstep_eq, zput_some, zcond_t, zthen_some, vop, veval, toVs, toV1, vbinX, vbin, vint, BinOp.sh, strip1, strip0, strip, upd_at, initFr_at, vret_r, vres, vresL, vseal, List.getElem?_cons_zero, Option.map_some, Option.getD_some, Option.bind_some, Option.some.injEq, Bool.false_eq_true, decide_true, eq_self, reduceCtorEq, ↓reduceIte, Nat.reduceEqDiff, Int.reduceAdd, exists_eq_left', Vle_self, ty3, ty48, Int.cast_ofNat_Int, gt_iff_lt, wrap_i64, a1, e]

theorem lead_ok (s : Nat) : VPure Try.prog 40 [.i .i64 (s : Int)] (.i .u8 (((UInt8.ofNat (leadN s)).toNat : Nat) : Int)) := by
  refine pure_of_body (tyOf_ok _) mixed Try.func40 rfl rfl (fun _ => 0) (by kernel_rfl) (zin ?_)
  dsimp only [Try.f40]
  by_cases h3 : s = 3
  · subst h3
    have e : (UInt8.ofNat (leadN 3)).toNat = 253 := rfl

    simp (maxSteps := 1000000) (dsimp := false) (disch := omega) only [zwp_region_f, zwp_seq, zwp_cond, zwp_block, zwp_ret, znil_none, nilTest_t, nilOf, zops_nil, zops_none, zstep_eq, zput_some, zcond_t, zthen_some, vop, veval, toVs, toV1, vbinX, vbin, vint, BinOp.sh, strip1, strip0, strip, upd_at, initFr_at, vret_r, vres, vresL, vseal, List.getElem?_cons_zero, Option.map_some, Option.getD_some, Option.bind_some, Option.some.injEq, Bool.false_eq_true, beq_self_eq_true, eq_self, reduceCtorEq, ↓reduceIte, exists_eq_left', Vle_self, ty3, Int.cast_ofNat_Int, e]
  · have h3' : ¬ (s : Int) = 3 := by omega
    by_cases h5 : s = 5
    · subst h5
      have e : (UInt8.ofNat (leadN 5)).toNat = 254 := rfl

      simp (maxSteps := 1000000) (dsimp := false) (disch := omega) only [zwp_region_f, zwp_seq, zwp_cond, zwp_block, zwp_ret, znil_none, nilTest_t, nilOf, zops_nil, zops_none, zstep_eq, zput_some, zcond_t, zcond_f, zthen_some, int_beq, vop, veval, toVs, toV1, vbinX, vbin, vint, BinOp.sh, strip1, strip0, strip, upd_at, initFr_at, vret_r, vres, vresL, vseal, List.getElem?_cons_zero, Option.map_some, Option.getD_some, Option.bind_some, Option.some.injEq, Bool.false_eq_true, decide_false, beq_self_eq_true, eq_self, reduceCtorEq, ↓reduceIte, Nat.reduceEqDiff, Int.reduceEq, exists_eq_left', Vle_self, ty3, Int.cast_ofNat_Int, e]
    · have h5' : ¬ (s : Int) = 5 := by omega
      have e : (UInt8.ofNat (leadN s)).toNat = 255 := by unfold leadN; rw [if_neg h3, if_neg h5]; rfl

      simp (maxSteps := 1000000) (dsimp := false) (disch := omega) only [zwp_skip, zwp_region_f, zwp_seq, zwp_cond, zwp_block, zwp_ret, znil_none, nilTest_t, nilOf, zops_nil, zops_none, zstep_eq, zput_some, zcond_f, zthen_some, int_beq, vop, veval, toVs, toV1, vbinX, vbin, vint, BinOp.sh, strip1, strip0, strip, upd_at, initFr_at, vret_r, vres, vresL, vseal, List.getElem?_cons_zero, Option.map_some, Option.getD_some, Option.bind_some, Option.some.injEq, Bool.false_eq_true, decide_false, eq_self, reduceCtorEq, ↓reduceIte, Nat.reduceEqDiff, exists_eq_left', Vle_self, ty3, Int.cast_ofNat_Int, e, h3', h5']

theorem behind_ok (c : Nat) : VPure Try.prog 58 [.i .u8 (c : Int)] (.i .i64 (behindN c : Int)) := by
  refine pure_of_body (tyOf_ok _) mixed Try.func58 rfl rfl (fun _ => 0) (by kernel_rfl) (zin ?_)
  dsimp only [Try.f58]
  by_cases h3 : c = 253
  · subst h3
    have e : behindN 253 = 2 := rfl

    simp (maxSteps := 1000000) (dsimp := false) (disch := omega) only [zwp_region_f, zwp_seq, zwp_cond, zwp_block, zwp_ret, znil_none, nilTest_t, nilOf, zops_nil, zops_none, zstep_eq, zput_some, zcond_t, zthen_some, vop, veval, toVs, toV1, vbinX, vbin, vint, BinOp.sh, strip1, strip0, strip, upd_at, initFr_at, vret_r, vres, vresL, vseal, List.getElem?_cons_zero, Option.map_some, Option.getD_some, Option.bind_some, Option.some.injEq, Bool.false_eq_true, beq_self_eq_true, eq_self, reduceCtorEq, ↓reduceIte, exists_eq_left', Vle_self, ty5, Int.cast_ofNat_Int, e]
  · have h3' : ¬ (c : Int) = 253 := by omega
    by_cases h4 : c = 254
    · subst h4
      have e : behindN 254 = 4 := rfl

      simp (maxSteps := 1000000) (dsimp := false) (disch := omega) only [zwp_region_f, zwp_seq, zwp_cond, zwp_block, zwp_ret, znil_none, nilTest_t, nilOf, zops_nil, zops_none, zstep_eq, zput_some, zcond_t, zcond_f, zthen_some, int_beq, vop, veval, toVs, toV1, vbinX, vbin, vint, BinOp.sh, strip1, strip0, strip, upd_at, initFr_at, vret_r, vres, vresL, vseal, List.getElem?_cons_zero, Option.map_some, Option.getD_some, Option.bind_some, Option.some.injEq, Bool.false_eq_true, decide_false, beq_self_eq_true, eq_self, reduceCtorEq, ↓reduceIte, Nat.reduceEqDiff, Int.reduceEq, exists_eq_left', Vle_self, ty5, Int.cast_ofNat_Int, e]
    · have h4' : ¬ (c : Int) = 254 := by omega
      by_cases h5 : c = 255
      · subst h5
        have e : behindN 255 = 8 := rfl

        simp (maxSteps := 1000000) (dsimp := false) (disch := omega) only [zwp_region_f, zwp_seq, zwp_cond, zwp_block, zwp_ret, znil_none, nilTest_t, nilOf, zops_nil, zops_none, zstep_eq, zput_some, zcond_t, zcond_f, zthen_some, int_beq, vop, veval, toVs, toV1, vbinX, vbin, vint, BinOp.sh, strip1, strip0, strip, upd_at, initFr_at, vret_r, vres, vresL, vseal, List.getElem?_cons_zero, Option.map_some, Option.getD_some, Option.bind_some, Option.some.injEq, Bool.false_eq_true, decide_false, beq_self_eq_true, eq_self, reduceCtorEq, ↓reduceIte, Nat.reduceEqDiff, Int.reduceEq, exists_eq_left', Vle_self, ty5, Int.cast_ofNat_Int, e]
      · have h5' : ¬ (c : Int) = 255 := by omega
        have e : behindN c = 0 := by unfold behindN; rw [if_neg h3, if_neg h4, if_neg h5]

        simp (maxSteps := 1000000) (dsimp := false) (disch := omega) only [zwp_skip, zwp_region_f, zwp_seq, zwp_cond, zwp_block, zwp_ret, znil_none, nilTest_t, nilOf, zops_nil, zops_none, zstep_eq, zput_some, zcond_f, zthen_some, int_beq, vop, veval, toVs, toV1, vbinX, vbin, vint, BinOp.sh, strip1, strip0, strip, upd_at, initFr_at, vret_r, vres, vresL, vseal, List.getElem?_cons_zero, Option.map_some, Option.getD_some, Option.bind_some, Option.some.injEq, Bool.false_eq_true, decide_false, eq_self, reduceCtorEq, ↓reduceIte, Nat.reduceEqDiff, exists_eq_left', Vle_self, ty5, Int.cast_ofNat_Int, e, h3', h4', h5']

theorem low_u8 (n : Nat) : IntKind.u8.wrap (n : Int) = (((UInt8.ofNat n).toNat : Nat) : Int) := by
  rw [IntKind.wrap_u8']; simp
theorem shr8 (n : Nat) : Int.fdiv (n : Int) (2 ^ min 8 IntKind.u64.bits) = ((n / 256 : Nat) : Int) := by
  show Int.fdiv (n : Int) 256 = _
  rw [Int.fdiv_eq_ediv_of_nonneg _ (by omega)]; omega
theorem or_shift (n c : Nat) (hc : c < 256) : (n * 256) ||| c = n * 256 + c := by
  have h := Nat.shiftLeft_add_eq_or_of_lt (i := 8) (b := c) (by omega) n
  rw [Nat.shiftLeft_eq] at h
  simp only [Nat.reducePow] at h
  omega
theorem or8 (a c : Nat) (ha : a < 72057594037927936) (hc : c < 256) : IntKind.u64.wrap (((BitVec.ofInt IntKind.u64.bits (IntKind.u64.wrap ((a : Int) * 2 ^ min 8 IntKind.u64.bits)) ||| BitVec.ofInt IntKind.u64.bits (c : Int)).toNat : Nat) : Int) = ((c + 256 * a : Nat) : Int) := by
  have e1 : IntKind.u64.wrap ((a : Int) * 2 ^ min 8 IntKind.u64.bits) = ((a * 256 : Nat) : Int) := by
    show IntKind.u64.wrap ((a : Int) * 256) = _
    rw [wrap_u64 (by omega) (by omega)]; omega
  rw [e1]
  have h := u64_or_nat (a * 256) c (by omega) (by omega)
  rw [or_shift _ _ hc] at h
  refine Eq.trans h ?_
  congr 1; omega

theorem ar2 (k : Nat) : 1 + (k + 1) = 2 + k := by omega
theorem ar3 (B k : Nat) : B + (k + 1) = B + 1 + k := by omega
theorem ar1 {B k s : Nat} (hl : B ≤ 100000000) (hk : k ≤ s - 1) (hs : s = 1 ∨ s = 3 ∨ s = 5 ∨ s = 9) : (B + 1 + k + 1) * 32 ≤ 140737488355328 ∧ k ≤ 8 := by omega
theorem cput_ok (b : List UInt8) (z : Nat) (hz : z = 1 ∨ b = []) (hl : b.length ≤ 100000000) (n : Nat) (hn : n < 18446744073709551616) : VPure Try.prog 19 [.sl z (bv b) .no, .i .u64 (n : Int)] (.sl 1 (bv (b ++ putN n)) (.own 5)) := by
  have hs : sizeN n = 1 ∨ sizeN n = 3 ∨ sizeN n = 5 ∨ sizeN n = 9 := by have := sizeN_cases n; omega
  have hput : putN n = if sizeN n = 1 then [UInt8.ofNat n] else UInt8.ofNat (leadN (sizeN n)) :: lowB (sizeN n - 1) n := rfl
  have hsz := size_ok n
  generalize putN n = R at *
  generalize sizeN n = s at *
  refine pure_of_body (tyOf_ok _) mixed Try.func19 rfl rfl (fun d => if d = 8 then 1 else 0) (by kernel_rfl) (zin ?_)
  dsimp only [Try.f19]

  simp (maxSteps := 1000000) (dsimp := false) (disch := omega) only [zwp_region_f, zwp_seq, znil_none, nilTest_t, nilOf, zops_nil, zops_none, zstep_eq, zput_some, zthen_some, zfn_fn, vop, veval, toVs, toV1, strip1, strip0, upd_at, initFr_at, hintOf, varg1, varg, vargs, List.map_cons, List.map_nil, List.getElem?_cons_zero, List.append_nil, Option.map_some, Option.getD_some, Bool.or_false, eq_self, reduceCtorEq, ↓reduceIte]
  refine zcall_pure (bclone_ok b z hz hl) (by first | exact fun h => Bool.noConfusion h | exact fun _ => rfl | exact fun _ => free_bv _ _ _) ?_
  simp (maxSteps := 1000000) (dsimp := false) (disch := omega) only [zwp_region_f, zwp_seq, znil_none, nilTest_t, nilOf, zops_nil, zops_none, zstep_eq, zput_some, zthen_some, zfn_fn, vop, veval, strip1, strip0, upd_at, initFr_at, vrecv, hintOf, varg1, varg, vargs, List.map_cons, List.map_nil, List.getElem?_cons_zero, List.getElem?_cons_succ, List.append_nil, Option.map_some, Option.getD_some, Bool.or_false, eq_self, ↓reduceIte, Nat.reduceEqDiff, Nat.zero_add]
  refine zcall_pure (hsz) (by first | exact fun h => Bool.noConfusion h | exact fun _ => rfl | exact fun _ => free_bv _ _ _) ?_
  have b1 : (b.length + 1) * 32 ≤ 140737488355328 := by omega
  by_cases h1 : s = 1
  · have h1' : (s : Int) = 1 := by omega
    have e : R = [UInt8.ofNat n] := by rw [hput, if_pos h1]
    rw [e]

    simp (maxSteps := 1000000) (dsimp := false) (disch := omega) only [zwp_region_f, zwp_seq, zwp_cond, zwp_ret, znil_none, nilTest_t, nilOf, zops_nil, zops_none, zstep_eq, zput_some, zcond_t, zthen_some, vop, veval, vprt, toVs, toV1, vblit, vlits, zeroElem, vbuiltin, vbinX, vbin, vint, BinOp.sh, vconv, vapp, vsrc, vgrow, strip1, strip0, upd_at, initFr_at, St.tok, vrecv, V.cells, V.isVal, TD.agg, vret_r, vres, vresL, vseal, List.map_cons, List.map_nil, List.getElem?_cons_zero, List.getElem?_cons_succ, List.length_cons, List.length_nil, List.replicate_one, List.set_cons_zero, List.isEmpty_cons, Option.map_some, Option.getD_some, Option.bind_some, Option.any_some, Option.some.injEq, true_and, true_or, or_false, and_self, Bool.false_eq_true, Bool.false_and, Bool.and_false, decide_false, beq_self_eq_true, eq_self, reduceCtorEq, ↓reduceIte, Nat.reduceLT, Nat.reduceLeDiff, Nat.reduceEqDiff, Nat.reduceAdd, Nat.reduceBEq, Nat.zero_add, Nat.mul_one, List.cons_ne_nil, exists_eq_left', ty3, ty5, ty27, ty48, bv_length, if_pos, low_u8, h1']
    exact .of_eq (by rw [← bv_append]; rfl)
  · have h1' : ¬ (s : Int) = 1 := by omega
    have e : R = UInt8.ofNat (leadN s) :: lowB (s - 1) n := by rw [hput, if_neg h1]
    rw [e]

    simp (maxSteps := 1000000) (dsimp := false) (disch := omega) only [zwp_skip, zwp_region_f, zwp_seq, zwp_cond, znil_none, nilTest_t, nilOf, zops_nil, zops_none, zstep_eq, zput_some, zcond_f, zthen_some, zfn_fn, int_beq, vop, veval, toVs, toV1, vbinX, vbin, vint, BinOp.sh, strip1, strip0, upd_at, vrecv, hintOf, varg1, varg, vargs, List.map_cons, List.map_nil, List.append_nil, Option.map_some, Bool.false_eq_true, Bool.or_false, decide_false, eq_self, ↓reduceIte, Nat.reduceEqDiff, ty3, h1']
    refine zcall_pure (lead_ok (s)) (by first | exact fun h => Bool.noConfusion h | exact fun _ => rfl | exact fun _ => free_bv _ _ _) ?_
    simp (maxSteps := 1000000) (dsimp := false) (disch := omega) only [zwp_region_f, zwp_seq, zwp_block, znil_none, nilTest_t, nilOf, zops_nil, zops_none, zstep_eq, zput_some, zthen_some, vop, veval, vprt, toVs, toV1, vblit, vlits, zeroElem, vbuiltin, vbinX, vbin, vint, BinOp.sh, vapp, vsrc, vgrow, strip1, strip0, upd_at, St.tok, vrecv, V.cells, V.isVal, TD.agg, List.map_cons, List.map_nil, List.length_cons, List.length_nil, List.replicate_one, List.set_cons_zero, List.isEmpty_cons, Option.map_some, Option.any_some, true_and, true_or, or_false, and_self, Bool.false_eq_true, Bool.false_and, Bool.and_false, decide_false, eq_self, reduceCtorEq, ↓reduceIte, Nat.reduceLT, Nat.reduceLeDiff, Nat.reduceEqDiff, Nat.reduceAdd, Nat.reduceBEq, Nat.zero_add, Nat.mul_one, List.cons_ne_nil, ty3, ty5, ty27, bv_length, wrap_i64, if_pos]
    refine zloop (s - 1) (fun k fr σ => fr 1 = .i .u64 ((n / 256 ^ k : Nat) : Int) ∧ fr 5 = .sl 1 (bv (b ++ UInt8.ofNat (leadN (s)) :: lowB k n)) (.tok (1 + k)) ∧ fr 24 = .i .i64 ((s - 1 : Nat) : Int) ∧ fr 25 = .i .i64 (k : Int) ∧ σ.n = 2 + k ∧ σ.h (1 + k) = some (.tok 5)) ⟨by simp [upd_at, initFr_at], by simp [upd_at, lowB, ← bv_append]; rfl, by simp [upd_at]; omega, rfl, rfl, rfl⟩ ?_
    rintro k fr ⟨h, m⟩ hk ⟨f1, f5, f24, f25, hm, h0⟩
    simp only at hm h0
    subst hm
    by_cases hlt : k < s - 1
    · have hlt' : (k : Int) < ((s - 1 : Nat) : Int) := by omega
      obtain ⟨b3, hk8⟩ := ar1 hl hk hs
      have b2 : (b ++ UInt8.ofNat (leadN s) :: lowB k n).length = b.length + 1 + k := by
        rw [List.length_append, List.length_cons, lowB_length]; exact ar3 _ _
      have hn2 : lowB (k + 1) n = lowB k n ++ [UInt8.ofNat (n / 256 ^ k)] := lowB_succ k n
      have hn3 : n / 256 ^ k / 256 = n / 256 ^ (k + 1) := by rw [Nat.div_div_eq_div_mul, Nat.pow_succ]
      rw [hn2, ← hn3]
      generalize hTe : b ++ UInt8.ofNat (leadN s) :: lowB k n = T at *
      generalize n / 256 ^ k = w at *
      generalize lowB k n = X at *

      simp (maxSteps := 1000000) (dsimp := false) (disch := omega) only [zwp_skip, zwp_region_f, zwp_seq, zwp_cond, zwp_block, znil_none, nilTest_t, nilOf, zops_nil, zops_none, zstep_eq, zput_some, zcond_t, zthen_some, vop, veval, vprt, toVs, toV1, vblit, vlits, zeroElem, vbuiltin, vbinX, vbin, vint, vshift, BinOp.sh, vconv, vapp, vsrc, vgrow, strip1, strip0, upd_at, St.tok, V.cells, V.isVal, TD.agg, List.map_cons, List.map_nil, List.length_cons, List.length_nil, List.replicate_one, List.set_cons_zero, List.isEmpty_cons, Option.map_some, Option.any_some, V.i.injEq, and_true, true_and, true_or, or_false, and_self, Bool.false_eq_true, Bool.false_and, Bool.and_false, decide_true, decide_false, eq_self, reduceCtorEq, ↓reduceIte, Nat.reduceLT, Nat.reduceLeDiff, Nat.reduceEqDiff, Nat.reduceBEq, Nat.zero_add, Nat.mul_one, Int.reduceLT, Int.reduceToNat, List.cons_ne_nil, ty3, ty5, ty27, ty48, bv_length, wrap_i64, if_pos, if_neg, low_u8, shr8, f1, f5, f24, f25, h0, hlt', b2]
      refine ⟨hlt, ?_, by simp, rfl⟩
      rw [ar2, ← List.cons_append, ← List.append_assoc, hTe, ← bv_append]; rfl
    · have hlt' : ¬ (k : Int) < ((s - 1 : Nat) : Int) := by omega
      have hke : k = s - 1 := by omega
      rw [hke] at f5 h0

      simp (maxSteps := 1000000) (dsimp := false) (disch := omega) only [zwp_region_f, zwp_seq, zwp_cond, zwp_exit, zwp_ret, znil_none, nilTest_t, nilOf, zops_nil, zops_none, zstep_eq, zput_some, zcond_f, zthen_some, vop, veval, vbinX, vbin, vint, BinOp.sh, upd_at, vret_r, vres, vresL, vseal, Option.map_some, Option.bind_some, Option.some.injEq, Bool.false_eq_true, decide_false, eq_self, ↓reduceIte, Nat.reduceEqDiff, exists_eq_left', Vle_self, ty3, f5, f24, f25, h0, hlt']
      all_goals exact .refl _

theorem bv_cons (c : UInt8) (r : List UInt8) : bv (c :: r) = .i .u8 (c.toNat : Int) :: bv r := rfl
theorem cget_ok (l : List UInt8) (z : Nat) (hz : z = 1 ∨ l = []) : VPure Try.prog 53 [.sl z (bv l) .no] (.tup [.i .u64 ((getN l).1 : Int), .i .i64 ((getN l).2.1 : Int), .i .i64 ((getN l).2.2 : Int)]) := by
  cases l with
  | nil =>
    have e : bv ([] : List UInt8) = [] := rfl
    refine pure_of_body (tyOf_ok _) mixed Try.func53 rfl rfl (fun _ => 0) (by kernel_rfl) (zin ?_)
    dsimp only [Try.f53]

    simp (maxSteps := 1000000) (dsimp := false) (disch := omega) only [zwp_region_f, zwp_seq, zwp_cond, zwp_ret, znil_none, nilTest_t, nilOf, zops_nil, zops_none, zstep_eq, zput_some, zcond_t, zthen_some, vop, veval, toVs, toV1, vbuiltin, vlen, vbinX, vbin, vint, BinOp.sh, strip1, strip0, stripTL, strip, upd_at, initFr_at, vret_r, vres, vresL, vseal, List.map_cons, List.map_nil, List.getElem?_cons_zero, List.length_nil, Option.map_some, Option.getD_some, Option.bind_some, Option.some.injEq, Bool.false_eq_true, beq_self_eq_true, eq_self, reduceCtorEq, ↓reduceIte, Nat.reduceEqDiff, exists_eq_left', ty3, ty27, Int.cast_ofNat_Int, e]
    all_goals exact .refl _
  | cons c r =>
    obtain rfl : z = 1 := by
      rcases hz with h | h
      · exact h
      · cases h
    refine VPure.lens (enters_of Try.func53 rfl rfl) fun hlen => ?_
    have hl : r.length + 1 ≤ 9223372036854775807 := by
      simpa [VLen, V.fn] using hlen
    clear hlen
    have hc := c.toNat_lt
    have B := behind_ok c.toNat
    have hb := behind_le c.toNat
    generalize hG : getN (c :: r) = G
    obtain ⟨gx, gy, ge⟩ := G
    simp only [getN] at hG
    generalize behindN c.toNat = k at *
    have hne : ¬ (r.length : Int) + 1 = 0 := by omega
    have hne2 : ¬ ((r.length + 1 : Nat) : Int) = 0 := by omega
    refine pure_of_body (tyOf_ok _) mixed Try.func53 rfl rfl (fun _ => 0) (by kernel_rfl) (zin ?_)
    dsimp only [Try.f53]

    simp (maxSteps := 1000000) (dsimp := false) (disch := omega) only [zwp_skip, zwp_region_f, zwp_seq, zwp_cond, znil_none, nilTest_t, nilOf, zops_nil, zops_none, zstep_eq, zput_some, zcond_f, zthen_some, zfn_fn, int_beq, vop, veval, toVs, toV1, vload, vpart, vbuiltin, vlen, vbinX, vbin, vint, BinOp.sh, viaddr, strip1, strip0, upd_at, initFr_at, hintOf, V.cells, TD.agg, varg1, varg, vargs, List.map_cons, List.map_nil, List.getElem?_cons_zero, List.append_nil, List.length_cons, Option.map_some, Option.getD_some, Bool.false_eq_true, Bool.or_false, decide_false, eq_self, reduceCtorEq, ↓reduceIte, Int.reduceLT, Int.reduceToNat, ty3, ty5, ty27, bv_length, bv_cons, hne2]
    refine zcall_pure (B) (by first | exact fun h => Bool.noConfusion h | exact fun _ => rfl | exact fun _ => free_bv _ _ _) ?_
    by_cases h0 : k = 0
    · have h0' : (k : Int) = 0 := by omega
      rw [if_pos h0] at hG
      cases hG

      simp (maxSteps := 1000000) (dsimp := false) (disch := omega) only [zwp_region_f, zwp_seq, zwp_cond, zwp_ret, znil_none, nilTest_t, nilOf, zops_nil, zops_none, zstep_eq, zput_some, zcond_t, zthen_some, vop, veval, toVs, toV1, vload, vpart, vbinX, vbin, vint, BinOp.sh, vconv, viaddr, strip1, strip0, stripTL, strip, upd_at, initFr_at, vrecv, V.cells, TD.agg, vret_r, vres, vresL, vseal, List.getElem?_cons_zero, Option.map_some, Option.getD_some, Option.bind_some, Option.some.injEq, Bool.false_eq_true, beq_self_eq_true, eq_self, reduceCtorEq, ↓reduceIte, Nat.reduceEqDiff, Int.reduceLT, Int.reduceToNat, exists_eq_left', Vle_self, ty3, ty5, ty27, ty48, Int.cast_ofNat_Int, wrap_u64, h0']
      all_goals exact .refl _
    · have h0' : ¬ (k : Int) = 0 := by omega
      rw [if_neg h0] at hG
      by_cases h1 : r.length < k
      · have h1' : ((r.length + 1 : Nat) : Int) ≤ (k : Int) := by omega
        rw [if_pos h1] at hG
        cases hG

        simp (maxSteps := 1000000) (dsimp := false) (disch := omega) only [zwp_skip, zwp_region_f, zwp_seq, zwp_cond, zwp_ret, znil_none, nilTest_t, nilOf, zops_nil, zops_none, zstep_eq, zput_some, zcond_t, zcond_f, zthen_some, int_beq, vop, veval, toVs, toV1, vbuiltin, vlen, vbinX, vbin, vint, BinOp.sh, strip1, strip0, stripTL, strip, upd_at, initFr_at, vrecv, vret_r, vres, vresL, vseal, List.map_cons, List.map_nil, List.getElem?_cons_zero, List.length_cons, Option.map_some, Option.getD_some, Option.bind_some, Option.some.injEq, Bool.false_eq_true, decide_true, decide_false, eq_self, reduceCtorEq, ↓reduceIte, Nat.reduceEqDiff, exists_eq_left', Vle_self, ty3, ty27, Int.cast_ofNat_Int, bv_length, h0', h1']
        all_goals exact .refl _
      · have h1' : ¬ ((r.length + 1 : Nat) : Int) ≤ (k : Int) := by omega
        rw [if_neg h1] at hG

        simp (maxSteps := 1000000) (dsimp := false) (disch := omega) only [zwp_skip, zwp_region_f, zwp_seq, zwp_cond, zwp_block, znil_none, nilTest_t, nilOf, zops_nil, zops_none, zstep_eq, zput_some, zcond_f, zthen_some, int_beq, vop, veval, toVs, toV1, vbuiltin, vlen, vbinX, vbin, vint, BinOp.sh, upd_at, initFr_at, vrecv, List.map_cons, List.map_nil, List.getElem?_cons_zero, List.length_cons, Option.map_some, Option.getD_some, Bool.false_eq_true, decide_false, eq_self, reduceCtorEq, ↓reduceIte, Nat.reduceEqDiff, ty3, ty27, bv_length, h0', h1']
        refine zloop k (fun m fr σ => fr 0 = .sl 1 (.i .u8 (c.toNat : Int) :: bv r) .no ∧ fr 5 = .i .i64 (k : Int) ∧ m ≤ k ∧ fr 7 = .i .i64 ((k - m : Nat) : Int) ∧ fr 6 = .i .u64 ((leVal ((r.drop (k - m)).take m) : Nat) : Int) ∧ σ.n = 0) ⟨rfl, rfl, Nat.zero_le _, by simp [upd_at], by simp [upd_at, leVal], rfl⟩ ?_
        rintro m fr ⟨h, n⟩ hm ⟨f0, f5, hm', f7, f6, hn⟩
        simp only at hn
        subst hn
        by_cases hlt : m < k
        · obtain ⟨j, hj⟩ : ∃ j, k - m = j + 1 := ⟨k - m - 1, by omega⟩
          have hjr : j < r.length := by omega
          have hs := leVal_step r k (j + 1) (by omega) (by omega) (by omega)
          have hs7 := leVal_lt7 r k (j + 1) hb (by omega) (by omega)
          have em : k - (j + 1) = m := by omega
          have em1 : k - j = m + 1 := by omega
          simp only [Nat.add_sub_cancel] at hs
          rw [em, em1] at hs
          rw [em] at hs7
          rw [hj] at f7 f6
          have hg : (bv r)[j]? = some (.i .u8 (r[j].toNat : Int)) := by simp [bv, hjr]
          have ho := or8 (leVal ((r.drop (j + 1)).take m)) r[j].toNat hs7 r[j].toNat_lt
          have hpos : (0 : Int) < ((j + 1 : Nat) : Int) := by omega
          have et : ((j + 1 : Nat) : Int).toNat = j + 1 := by omega
          have hcl := r[j].toNat_lt
          have hnn : ¬ ((j + 1 : Nat) : Int) < 0 := by omega

          simp (maxSteps := 1000000) (dsimp := false) (disch := omega) only [zwp_skip, zwp_region_f, zwp_seq, zwp_cond, zwp_block, znil_none, nilTest_t, nilOf, zops_nil, zops_none, zstep_eq, zput_some, zcond_t, zthen_some, vop, veval, toVs, toV1, vload, vpart, vbinX, vbin, vint, vshift, BinOp.sh, vconv, viaddr, upd_at, V.cells, TD.agg, List.getElem?_cons_zero, List.getElem?_cons_succ, Option.map_some, V.i.injEq, and_true, true_and, Bool.false_eq_true, decide_true, eq_self, reduceCtorEq, ↓reduceIte, Nat.reduceEqDiff, Int.reduceLT, Int.reduceToNat, ty3, ty5, ty27, ty48, gt_iff_lt, wrap_i64, wrap_u64, f0, f5, f7, f6, hg, ho, hpos, et, hnn]
          refine ⟨hlt, by omega, by omega, ?_⟩
          rw [show k - (m + 1) = j by omega, hs]
        · have hmk : m = k := by omega
          subst hmk
          rw [Nat.sub_self] at f7 f6
          rw [List.drop_zero] at f6

          simp (maxSteps := 1000000) (dsimp := false) (disch := omega) only [zwp_region_f, zwp_seq, zwp_cond, zwp_exit, znil_none, nilTest_t, nilOf, zops_nil, zops_none, zstep_eq, zput_some, zcond_f, zthen_some, zfn_fn, vop, veval, toVs, toV1, vbinX, vbin, vint, BinOp.sh, strip1, strip0, upd_at, hintOf, varg1, varg, vargs, List.map_cons, List.map_nil, List.append_nil, Option.map_some, Bool.false_eq_true, Bool.or_false, decide_false, eq_self, ↓reduceIte, Nat.reduceEqDiff, Int.reduceLT, ty3, Int.cast_ofNat_Int, gt_iff_lt, f7, f6]
          refine zcall_pure (size_ok _) (by first | exact fun h => Bool.noConfusion h | exact fun _ => rfl | exact fun _ => free_bv _ _ _) ?_
          by_cases hsz : sizeN (leVal (r.take m)) = m + 1
          · have hsz' : (sizeN (leVal (r.take m)) : Int) = (m : Int) + 1 := by omega
            rw [if_neg (by simpa using hsz)] at hG
            cases hG

            simp (maxSteps := 1000000) (dsimp := false) (disch := omega) only [zwp_skip, zwp_region_f, zwp_seq, zwp_cond, zwp_ret, znil_none, nilTest_t, nilOf, zops_nil, zops_none, zstep_eq, zput_some, zcond_f, zthen_some, vop, veval, toVs, toV1, vbinX, vbin, vint, BinOp.sh, strip1, strip0, stripTL, strip, upd_at, vrecv, vret_r, vres, vresL, vseal, Option.map_some, Option.bind_some, Option.some.injEq, Bool.false_eq_true, Bool.not_true, beq_self_eq_true, eq_self, ↓reduceIte, Nat.reduceEqDiff, exists_eq_left', ty3, Int.cast_ofNat_Int, wrap_i64, bne, f5, f6, hsz']
            all_goals exact .of_eq (by simp)
          · have hsz' : ¬ (sizeN (leVal (r.take m)) : Int) = (m : Int) + 1 := by omega
            rw [if_pos hsz] at hG
            cases hG

            simp (maxSteps := 1000000) (dsimp := false) (disch := omega) only [zwp_region_f, zwp_seq, zwp_cond, zwp_ret, znil_none, nilTest_t, nilOf, zops_nil, zops_none, zstep_eq, zput_some, zcond_t, zthen_some, int_beq, vop, veval, toVs, toV1, vbinX, vbin, vint, BinOp.sh, strip1, strip0, stripTL, strip, upd_at, vrecv, vret_r, vres, vresL, vseal, Option.map_some, Option.bind_some, Option.some.injEq, Bool.false_eq_true, Bool.not_false, decide_false, eq_self, ↓reduceIte, Nat.reduceEqDiff, exists_eq_left', Vle_self, ty3, Int.cast_ofNat_Int, wrap_i64, bne, f5, hsz']
            all_goals exact .of_eq (by simp)

theorem cbounded_ok (l : List UInt8) (z : Nat) (hz : z = 1 ∨ l = []) (q : Nat) : VPure Try.prog 45 [.sl z (bv l) .no, .i .u64 (q : Int)] (.tup [.i .i64 ((boundN l q).1 : Int), .i .i64 ((boundN l q).2.1 : Int), .i .i64 ((boundN l q).2.2 : Int)]) := by
  have hG := cget_ok l z hz
  unfold boundN
  generalize getN l = G at *
  obtain ⟨x, y, e⟩ := G
  simp only at hG ⊢
  refine pure_of_body (tyOf_ok _) mixed Try.func45 rfl rfl (fun _ => 0) (by kernel_rfl) (zin ?_)
  dsimp only [Try.f45]

  simp (maxSteps := 1000000) (dsimp := false) (disch := omega) only [zwp_region_f, zwp_seq, znil_none, nilTest_t, nilOf, zops_nil, zops_none, zstep_eq, zput_some, zthen_some, zfn_fn, vop, veval, toVs, toV1, strip1, strip0, upd_at, initFr_at, hintOf, varg1, varg, vargs, List.map_cons, List.map_nil, List.getElem?_cons_zero, List.append_nil, Option.map_some, Option.getD_some, Bool.or_false, eq_self, reduceCtorEq, ↓reduceIte]
  refine zcall_pure (hG) (by first | exact fun h => Bool.noConfusion h | exact fun _ => rfl | exact fun _ => free_bv _ _ _) ?_
  by_cases h0 : e = 0
  · have h0' : (e : Int) = 0 := by omega
    by_cases h1 : min q 2147483647 < x
    · have h1' : min (q : Int) 2147483647 < (x : Int) := by omega
      simp (maxSteps := 1000000) (dsimp := false) (disch := omega) only [zwp_region_f, zwp_seq, zwp_cond, zwp_block, zwp_ret, znil_none, nilTest_t, nilOf, zops_nil, zops_none, zstep_eq, zput_some, zcond_t, zcond_f, zthen_some, vop, veval, toVs, toV1, vbuiltin, vmms, vmm, vbinX, vbin, vint, BinOp.sh, vext, strip1, strip0, stripTL, strip, upd_at, initFr_at, vrecv, vret_r, vres, vresL, vseal, List.map_cons, List.map_nil, List.getElem?_cons_zero, List.getElem?_cons_succ, Option.map_some, Option.getD_some, Option.bind_some, Option.some.injEq, Bool.false_eq_true, Bool.not_true, decide_true, beq_self_eq_true, eq_self, ↓reduceIte, Nat.reduceEqDiff, ne_eq, exists_eq_left', Vle_self, ty30, ty48, Int.cast_ofNat_Int, gt_iff_lt, bne, if_pos, if_neg, Int.cast_ofNat_Int, h0', h1']
      all_goals exact .of_eq (by simp [h0, h1])
    · have h1' : ¬ min (q : Int) 2147483647 < (x : Int) := by omega
      simp (maxSteps := 1000000) (dsimp := false) (disch := omega) only [zwp_skip, zwp_region_f, zwp_seq, zwp_cond, zwp_block, zwp_ret, znil_none, nilTest_t, nilOf, zops_nil, zops_none, zstep_eq, zput_some, zcond_f, zthen_some, vop, veval, toVs, toV1, vbuiltin, vmms, vmm, vbinX, vbin, vint, BinOp.sh, vconv, vext, strip1, strip0, stripTL, strip, upd_at, initFr_at, vrecv, vret_r, vres, vresL, vseal, List.map_cons, List.map_nil, List.getElem?_cons_zero, List.getElem?_cons_succ, Option.map_some, Option.getD_some, Option.bind_some, Option.some.injEq, Bool.false_eq_true, Bool.not_true, decide_false, beq_self_eq_true, eq_self, ↓reduceIte, Nat.reduceEqDiff, ne_eq, exists_eq_left', Vle_self, ty3, ty30, ty48, Int.cast_ofNat_Int, gt_iff_lt, wrap_i64, bne, if_neg, Int.cast_ofNat_Int, h0', h1']
      all_goals exact .of_eq (by simp [h0, h1])
  · have h0' : ¬ (e : Int) = 0 := by omega
    simp (maxSteps := 1000000) (dsimp := false) (disch := omega) only [zwp_region_f, zwp_seq, zwp_cond, zwp_block, zwp_ret, znil_none, nilTest_t, nilOf, zops_nil, zops_none, zstep_eq, zput_some, zcond_t, zthen_some, int_beq, vop, veval, toVs, toV1, vbinX, vbin, vint, BinOp.sh, vext, strip1, strip0, stripTL, strip, upd_at, vrecv, vret_r, vres, vresL, vseal, List.getElem?_cons_zero, List.getElem?_cons_succ, Option.map_some, Option.bind_some, Option.some.injEq, Bool.false_eq_true, Bool.not_false, decide_false, eq_self, ↓reduceIte, Nat.reduceEqDiff, ne_eq, exists_eq_left', Vle_self, ty30, Int.cast_ofNat_Int, bne, if_pos, Int.cast_ofNat_Int, h0']
    all_goals exact .of_eq (by simp [h0])

theorem cbytes_ok (l : List UInt8) (z : Nat) (hz : z = 1 ∨ l = []) (hl : l.length ≤ 100000000) (most : Int) (hm : -9223372036854775808 ≤ most ∧ most ≤ 9223372036854775807) : VPure Try.prog 46 [.sl z (bv l) .no, .i .i64 most] (.tup [.sl 1 (bv (bytesN l most).1) .no, .i .i64 ((bytesN l most).2.1 : Int), .i .i64 ((bytesN l most).2.2 : Int)]) := by
  have e1 : max most 0 = ((most.toNat : Nat) : Int) := by omega
  have hG := cbounded_ok l z hz most.toNat
  have hB : (boundN l most.toNat).1 ≤ 2147483647 := by
    unfold boundN
    split
    · exact Nat.zero_le _
    · split
      · exact Nat.zero_le _
      · simp only; omega
  have hB2 : (boundN l most.toNat).2.1 ≤ l.length := by
    unfold boundN
    split
    · exact Nat.zero_le _
    · split
      · exact Nat.zero_le _
      · exact (getN_bound l).2.1
  generalize hR : bytesN l most = R
  obtain ⟨r1, r2, r3⟩ := R
  unfold bytesN at hR
  generalize boundN l most.toNat = G at *
  obtain ⟨x, y, e⟩ := G
  simp only at hG hB hB2 hR ⊢
  have hmt : most.toNat ≤ 9223372036854775807 := by omega
  refine pure_of_body (tyOf_ok _) mixed Try.func46 rfl rfl (fun _ => 0) (by kernel_rfl) (zin ?_)
  dsimp only [Try.f46]

  simp (maxSteps := 1000000) (dsimp := false) (disch := omega) only [zwp_region_f, zwp_seq, znil_none, nilTest_t, nilOf, zops_nil, zops_none, zstep_eq, zput_some, zthen_some, zfn_fn, vop, veval, toVs, toV1, vbuiltin, vmms, vmm, vconv, strip1, strip0, upd_at, initFr_at, hintOf, varg1, varg, vargs, List.map_cons, List.map_nil, List.getElem?_cons_zero, List.getElem?_cons_succ, List.append_nil, Option.map_some, Option.getD_some, Bool.or_false, eq_self, reduceCtorEq, ↓reduceIte, Nat.reduceEqDiff, ty3, ty48, wrap_u64, e1]
  refine zcall_pure (hG) (by first | exact fun h => Bool.noConfusion h | exact fun _ => rfl | exact fun _ => free_bv _ _ _) ?_
  by_cases h0 : e = 0
  · have h0' : (e : Int) = 0 := by omega
    by_cases h1 : most < 0
    · simp (maxSteps := 1000000) (dsimp := false) (disch := omega) only [zwp_region_f, zwp_seq, zwp_cond, zwp_block, zwp_ret, znil_none, nilTest_t, nilOf, zops_nil, zops_none, zstep_eq, zput_some, zcond_t, zcond_f, zthen_some, vop, veval, toVs, toV1, vbinX, vbin, vint, BinOp.sh, vext, strip1, strip0, stripTL, strip, upd_at, initFr_at, vrecv, vret_r, vres, vresL, vseal, List.getElem?_cons_zero, List.getElem?_cons_succ, Option.map_some, Option.getD_some, Option.bind_some, Option.some.injEq, Bool.false_eq_true, Bool.not_true, decide_true, beq_self_eq_true, eq_self, ↓reduceIte, Nat.reduceEqDiff, exists_eq_left', ty3, ty30, bne, h0', h1]
      simp [h0, h1] at hR
      obtain ⟨rfl, rfl, rfl⟩ := hR
      exact .tup (.cons (.one (.nil _ _ _)) (.cons (.refl _) (.cons (.refl _) .nil)))
    · by_cases h2 : l.length < y + x
      · have h2' : (l.length : Int) - (y : Int) < (x : Int) := by omega
        simp (maxSteps := 1000000) (dsimp := false) (disch := omega) only [zwp_region_f, zwp_seq, zwp_cond, zwp_block, zwp_ret, znil_none, nilTest_t, nilOf, zops_nil, zops_none, zstep_eq, zput_some, zcond_t, zcond_f, zthen_some, vop, veval, toVs, toV1, vbuiltin, vlen, vbinX, vbin, vint, BinOp.sh, vext, strip1, strip0, stripTL, strip, upd_at, initFr_at, vrecv, vret_r, vres, vresL, vseal, List.map_cons, List.map_nil, List.getElem?_cons_zero, List.getElem?_cons_succ, Option.map_some, Option.getD_some, Option.bind_some, Option.some.injEq, Bool.false_eq_true, Bool.not_true, decide_true, decide_false, beq_self_eq_true, eq_self, reduceCtorEq, ↓reduceIte, Nat.reduceEqDiff, exists_eq_left', ty3, ty27, ty30, bv_length, gt_iff_lt, wrap_i64, bne, h0', h1, h2']
        simp [h0, h1, h2] at hR
        obtain ⟨rfl, rfl, rfl⟩ := hR
        exact .tup (.cons (.one (.nil _ _ _)) (.cons (.refl _) (.cons (.refl _) .nil)))
      · have h2' : ¬ (l.length : Int) - (y : Int) < (x : Int) := by omega
        have e2 : ((y : Int) + (x : Int)).toNat = y + x := by omega
        have hzz : z = 1 ∨ bv l = [] := by
          rcases hz with h | h
          · exact .inl h
          · subst h; exact .inr rfl
        have hz1 : (if bv l = [] then 1 else z) = 1 := by
          rcases hzz with h | h
          · rw [h]; split <;> rfl
          · rw [if_pos h]
        simp (maxSteps := 1000000) (dsimp := false) (disch := omega) only [zwp_skip, zwp_region_f, zwp_seq, zwp_cond, zwp_block, znil_none, nilTest_t, nilOf, zops_nil, zops_none, zstep_eq, zput_some, zcond_f, zthen_some, zfn_fn, int_lt0, vop, veval, toVs, toV1, vbuiltin, vlen, vbinX, vbin, vint, BinOp.sh, vslice, vbnd, vext, strip1, strip0, upd_at, initFr_at, vrecv, hintOf, varg1, varg, vargs, List.map_cons, List.map_nil, List.getElem?_cons_zero, List.getElem?_cons_succ, List.append_nil, Option.map_some, Option.map_none, Option.getD_some, Option.isSome_some, Option.isSome_none, and_true, and_false, false_and, and_self, or_self, Bool.false_eq_true, Bool.not_true, Bool.or_false, decide_false, beq_self_eq_true, false_implies, eq_self, reduceCtorEq, ↓reduceIte, Nat.reduceEqDiff, Nat.le_refl, Nat.add_sub_cancel_left, Int.toNat_natCast, ty3, ty5, ty27, ty30, bv_length, gt_iff_lt, wrap_i64, bne, if_pos, if_neg, h0', h1, h2', e2, hzz, hz1, bv_drop, bv_take, Nat.add_sub_cancel_left]
        refine zcall_pure (bclone_ok ((l.drop y).take x) 1 (.inl rfl) (by simp; omega)) (by first | exact fun h => Bool.noConfusion h | exact fun _ => rfl | exact fun _ => free_bv _ _ _) ?_
        simp (maxSteps := 1000000) (dsimp := false) (disch := omega) only [zwp_ret, znil_none, nilTest_t, nilOf, zops_nil, zops_none, zstep_eq, zput_some, zthen_some, vop, veval, toVs, toV1, vbinX, vbin, vint, BinOp.sh, strip1, strip0, stripTL, strip, upd_at, vrecv, vret_r, vres, vresL, vseal, Option.map_some, Option.bind_some, Option.some.injEq, false_and, Bool.false_eq_true, eq_self, reduceCtorEq, ↓reduceIte, Nat.reduceEqDiff, exists_eq_left', ty3, wrap_i64]
        simp [h0, h1, h2] at hR
        obtain ⟨rfl, rfl, rfl⟩ := hR
        exact .of_eq (by simp)
  · have h0' : ¬ (e : Int) = 0 := by omega
    simp (maxSteps := 1000000) (dsimp := false) (disch := omega) only [zwp_region_f, zwp_seq, zwp_cond, zwp_block, zwp_ret, znil_none, nilTest_t, nilOf, zops_nil, zops_none, zstep_eq, zput_some, zcond_t, zthen_some, int_beq, vop, veval, toVs, toV1, vbinX, vbin, vint, BinOp.sh, vext, strip1, strip0, stripTL, strip, upd_at, vrecv, vret_r, vres, vresL, vseal, List.getElem?_cons_zero, List.getElem?_cons_succ, Option.map_some, Option.bind_some, Option.some.injEq, Bool.false_eq_true, Bool.not_false, decide_false, eq_self, ↓reduceIte, Nat.reduceEqDiff, exists_eq_left', ty30, bne, h0']
    simp [h0] at hR
    obtain ⟨rfl, rfl, rfl⟩ := hR
    exact .tup (.cons (.one (.nil _ _ _)) (.cons (.refl _) (.cons (.refl _) .nil)))
end Go.Proofs.Ytkcapmodgkficaa
