/- Transactions: taking hashes and scripts. -/
import Derived.Test.YtkcapmodgkficaaTxS
namespace Go.Proofs.Ytkcapmodgkficaa
open Go.Vx Go.Fl
set_option maxRecDepth 100000
set_option maxHeartbeats 4000000
set_option linter.unusedSimpArgs false
set_option linter.unusedVariables false

/-- A script taken. -/
def scriptP (R : RdT) : Option (List UInt8) × RdT :=
  if R.2 = 0 then (if (bytesN R.1 10000).2.2 = 0 then (some (bytesN R.1 10000).1, (R.1.drop (bytesN R.1 10000).2.1, 0)) else (none, (R.1, (bytesN R.1 10000).2.2))) else (none, R)
theorem KeepR.refl (o : Nat) (σ : St) : KeepR o σ σ := ⟨Nat.le_refl _, fun _ _ _ => rfl⟩
theorem KeepR.trans {o : Nat} {a b c : St} (h : KeepR o a b) (k : KeepR o b c) : KeepR o a c := ⟨Nat.le_trans h.1 k.1, fun p h1 h2 => (k.2 p (Nat.lt_of_lt_of_le h1 h.1) h2).trans (h.2 p h1 h2)⟩
theorem KeepR.set (o : Nat) (σ : St) (R : RdT) : KeepR o σ (setR σ o R) := ⟨Nat.le_refl _, fun p _ h => setR_ne σ R h⟩

theorem bytesN_le (l : List UInt8) (m : Int) : (bytesN l m).2.1 ≤ l.length ∨ (bytesN l m).2.2 ≠ 0 := by
  unfold bytesN
  split
  · right; assumption
  · split
    · right; decide
    · split
      · right; decide
      · left; simp only; omega

theorem rscript_ok (σ : St) (o : Nat) (R : RdT) (hl : R.1.length ≤ 100000000) (hR : σ.h o = rcell R) :
    VRef Try.prog 29 [.ptr o 0] σ (fun v σ' => v = takeV (scriptP R).1 ∧ σ' = setR σ o (scriptP R).2) := by
  obtain ⟨L, e⟩ := R
  have hR' : σ.h o = some (.cells [.sl 1 (bv L) .no, .i .i64 (e : Int)]) := hR
  obtain ⟨h, m⟩ := σ
  simp only at hR' hl
  have hB := cbytes_ok L 1 (.inl rfl) hl 10000 (by omega)
  have hle := bytesN_le L 10000
  by_cases he : e = 0
  · have he' : (e : Int) = 0 := by omega
    by_cases hz : (bytesN L 10000).2.2 = 0
    · have hT : scriptP (L, e) = (some (bytesN L 10000).1, (L.drop (bytesN L 10000).2.1, 0)) := by simp [scriptP, he, hz]
      rw [hT]
      generalize bytesN L 10000 = B at *
      obtain ⟨b, k, z⟩ := B
      simp only at hz hle hB ⊢
      subst hz
      have hk : k ≤ L.length := by
        rcases hle with h | h
        · exact h
        · exact absurd rfl h
      have hk1 : (k : Int) ≤ (L.length : Int) := by omega
      have hk2 : ¬ (L.length : Int) < (k : Int) := by omega
      refine ref_of_body (tyOf_ok _) mixed Try.func29 rfl rfl (fun _ => 0) (by kernel_rfl) (fun hwf => zin ?_)
      dsimp only [Try.f29]

      simp (maxSteps := 1000000) (dsimp := false) (disch := omega) only [zwp_skip, zwp_region_f, zwp_seq, zwp_cond, znil_none, nilTest_t, nilOf, zops_nil, zops_none, zstep_eq, zput_some, zcond_f, zthen_some, zfn_fn, vop, veval, toVs, toV1, vload, vpart, vbinX, vbin, vint, BinOp.sh, vfaddr, strip1, strip0, upd_at, initFr_at, hintOf, TD.agg, varg1, varg, vargs, List.map_cons, List.map_nil, List.getElem?_cons_zero, List.getElem?_cons_succ, List.append_nil, Option.map_some, Option.getD_some, Bool.false_eq_true, Bool.not_true, Bool.or_false, beq_self_eq_true, eq_self, reduceCtorEq, ↓reduceIte, Nat.zero_add, Nat.add_zero, ty27, ty30, ty73, bne, hR', he']
      refine zcall_pure (hB) (by first | exact fun h => Bool.noConfusion h | exact fun _ => rfl | exact fun _ => free_bv _ _ _) ?_

      simp (maxSteps := 1000000) (dsimp := false) (disch := omega) only [zwp_skip, zwp_region_f, zwp_seq, zwp_cond, zwp_ret, znil_none, nilTest_t, nilOf, zops_nil, zops_none, zstep_eq, zput_some, zput_none, zcond_f, zthen_some, int_lt0, vop, veval, toVs, toV1, vstore, vload, vpart, vbinX, vbin, vint, BinOp.sh, vslice, vbnd, vfaddr, vext, upd_at, initFr_at, St.put, vrecv, V.cells, V.isVal, TD.agg, rret_r, vres, vresL, List.getElem?_cons_zero, List.getElem?_cons_succ, List.take_zero, List.drop_succ_cons, List.drop_zero, List.nil_append, List.cons_append, List.length_cons, List.length_nil, Option.map_some, Option.map_none, Option.getD_some, Option.isSome_none, Option.some.injEq, and_true, and_false, true_or, and_self, or_self, Bool.false_eq_true, Bool.not_true, ite_self, beq_self_eq_true, false_implies, eq_self, reduceCtorEq, ↓reduceIte, Nat.reduceLeDiff, Nat.reduceEqDiff, Nat.reduceAdd, Nat.zero_add, Nat.add_zero, Nat.le_refl, Int.toNat_natCast, exists_eq_left', ty5, ty27, ty30, ty73, Int.cast_ofNat_Int, bv_length, bne, hR', he', hk]
      refine ⟨rfl, ?_⟩
      rw [List.take_of_length_le (by simp), bv_drop]; rfl
    · have hT : scriptP (L, e) = (none, (L, (bytesN L 10000).2.2)) := by simp [scriptP, he, hz]
      rw [hT]
      generalize bytesN L 10000 = B at *
      obtain ⟨b, k, z⟩ := B
      simp only at hz hle hB ⊢
      have hz' : ¬ (z : Int) = 0 := by omega
      refine ref_of_body (tyOf_ok _) mixed Try.func29 rfl rfl (fun _ => 0) (by kernel_rfl) (fun hwf => zin ?_)
      dsimp only [Try.f29]

      simp (maxSteps := 1000000) (dsimp := false) (disch := omega) only [zwp_skip, zwp_region_f, zwp_seq, zwp_cond, znil_none, nilTest_t, nilOf, zops_nil, zops_none, zstep_eq, zput_some, zcond_f, zthen_some, zfn_fn, vop, veval, toVs, toV1, vload, vpart, vbinX, vbin, vint, BinOp.sh, vfaddr, strip1, strip0, upd_at, initFr_at, hintOf, TD.agg, varg1, varg, vargs, List.map_cons, List.map_nil, List.getElem?_cons_zero, List.getElem?_cons_succ, List.append_nil, Option.map_some, Option.getD_some, Bool.false_eq_true, Bool.not_true, Bool.or_false, beq_self_eq_true, eq_self, reduceCtorEq, ↓reduceIte, Nat.zero_add, Nat.add_zero, ty27, ty30, ty73, bne, hR', he']
      refine zcall_pure (hB) (by first | exact fun h => Bool.noConfusion h | exact fun _ => rfl | exact fun _ => free_bv _ _ _) ?_

      simp (maxSteps := 1000000) (dsimp := false) (disch := omega) only [zwp_region_f, zwp_seq, zwp_cond, zwp_ret, znil_none, nilTest_t, nilOf, zops_nil, zops_none, zstep_eq, zput_some, zput_none, zcond_t, zthen_some, int_beq, vop, veval, toVs, toV1, vstore, vbinX, vbin, vint, BinOp.sh, vfaddr, vext, upd_at, initFr_at, St.put, vrecv, V.cells, V.isVal, rret_r, vres, vresL, List.getElem?_cons_zero, List.getElem?_cons_succ, List.take_succ_cons, List.take_zero, List.drop_succ_cons, List.drop_nil, List.nil_append, List.cons_append, List.append_nil, List.length_cons, List.length_nil, Option.map_some, Option.getD_some, Option.some.injEq, and_self, Bool.false_eq_true, Bool.not_false, decide_false, eq_self, reduceCtorEq, ↓reduceIte, Nat.reduceEqDiff, Nat.reduceAdd, Nat.zero_add, Nat.le_refl, exists_eq_left', ty30, ty73, bne, hR', he', hz']
      exact ⟨rfl, rfl⟩
  · have he' : ¬ (e : Int) = 0 := by omega
    have hT : scriptP (L, e) = (none, (L, e)) := by simp [scriptP, he]
    rw [hT, setR_self hR]
    refine ref_of_body (tyOf_ok _) mixed Try.func29 rfl rfl (fun _ => 0) (by kernel_rfl) (fun hwf => zin ?_)
    dsimp only [Try.f29]

    simp (maxSteps := 1000000) (dsimp := false) (disch := omega) only [zwp_region_f, zwp_seq, zwp_cond, zwp_ret, znil_none, nilTest_t, nilOf, zops_nil, zops_none, zstep_eq, zput_some, zcond_t, zthen_some, int_beq, vop, veval, toVs, toV1, vload, vpart, vbinX, vbin, vint, BinOp.sh, vfaddr, upd_at, initFr_at, TD.agg, rret_r, vres, vresL, List.getElem?_cons_zero, List.getElem?_cons_succ, Option.map_some, Option.getD_some, Option.some.injEq, and_true, Bool.false_eq_true, Bool.not_false, decide_false, eq_self, reduceCtorEq, ↓reduceIte, Nat.zero_add, exists_eq_left', ty30, ty73, bne, hR', he']
    rfl

/-- A hash taken. -/
def hashP (R : RdT) : List UInt8 × RdT := ((match (takeP 32 R).1 with | none => List.replicate 32 0 | some l => l), (takeP 32 R).2)
theorem rhash_ok (σ : St) (o : Nat) (R : RdT) (ho : o < σ.n) (hR : σ.h o = rcell R) :
    VRef Try.prog 28 [.ptr o 0] σ (fun v σ' => v = .agg (bv (hashP R).1) ∧ σ'.h o = rcell (hashP R).2 ∧ KeepR o σ σ') := by
  have hT : ∀ l, (takeP 32 R).1 = some l → l.length = 32 := by
    intro l h
    unfold takeP at h
    split at h
    · split at h
      · cases h
      · simp only [Option.some.injEq] at h
        rw [← h, List.length_take]; omega
    · cases h
  have hS := fun (s : St) (h : s.h o = rcell R) => take_ok s o R 32 (by omega) h
  unfold hashP
  generalize takeP 32 R = T at *
  obtain ⟨x, R'⟩ := T
  obtain ⟨h, m⟩ := σ
  simp only at ho hR hT hS
  have n1 : o ≠ m := by omega
  have n2 : m ≠ o := by omega
  have n3 : o ≠ m + 1 := by omega
  have n4 : m + 1 ≠ o := by omega
  have b3 : 32 ≤ maxLen := by decide +kernel
  have d1 : min 0 32 = 0 := rfl
  have d2 : (List.replicate 32 (V.i .u8 0)).take 32 = List.replicate 32 (V.i .u8 0) := rfl
  have d3 : (List.replicate 32 (V.i .u8 0)).drop 32 = [] := rfl
  have d4 : bv (List.replicate 32 0) = List.replicate 32 (V.i .u8 0) := rfl
  cases x with
  | none =>
    simp only
    refine ref_of_body (tyOf_ok _) mixed Try.func28 rfl rfl (fun d => if d = 6 then 3 else 0) (by kernel_rfl) (fun hwf => zin ?_)
    dsimp only [Try.f28]

    simp (maxSteps := 1000000) (dsimp := false) (disch := omega) only [zwp_region_f, zwp_region_t, zwp_seq, znil_none, nilTest_f, nilTest_t, nilOf, zops_nil, zops_none, zstep_eq, zput_some, zthen_some, zfn_fn, vop, veval, toVs, toV1, valloc, vslice, vbnd, strip1, strip0, upd_at, initFr_at, St.new, hintOf, varg1, varg, vargs, List.map_cons, List.map_nil, List.getElem?_cons_zero, List.drop_zero, List.append_nil, Option.map_some, Option.map_none, Option.getD_some, Option.isSome_none, and_self, or_self, Bool.false_eq_true, Bool.or_false, false_implies, eq_self, reduceCtorEq, ↓reduceIte, Nat.reduceLT, Nat.add_zero, Nat.sub_zero, Nat.zero_le, Nat.le_refl, Nat.mul_one, ty5, ty52, n1, n3, b3]
    refine zcall_x (hS _ (by simp only; rw [upd_ne _ _ n3, upd_ne _ _ n1]; exact hR)) ?_ ?_
    · exact fun hw p hp => by
        rw [setR_ne _ _ (by rw [setR_n] at hp; simp only at hp; omega)]
        exact hw p hp

    simp (maxSteps := 1000000) (dsimp := false) (disch := omega) only [zlate_0, zwp_region_f, zwp_seq, zwp_ret, znil_none, nilTest_f, nilTest_t, nilOf, zops_nil, zops_none, zstep_eq, zput_some, zput_none, zthen_some, vop, veval, vstore, vload, vpart, vbuiltin, vsrc, vcopy, upd_at, St.put, V.cells, V.isVal, TD.agg, rret_r, vres, vresL, List.map_cons, List.map_nil, List.take_zero, List.take_nil, List.drop_zero, List.nil_append, List.append_nil, List.length_nil, List.length_replicate, List.all_nil, Option.map_some, Option.some.injEq, true_and, or_true, and_self, ite_self, eq_self, reduceCtorEq, ↓reduceIte, Nat.reduceEqDiff, Nat.zero_add, Nat.add_zero, Nat.le_refl, exists_eq_left', ty5, ty27, ty52, Int.cast_ofNat_Int, n1, n2, n3, n4, d1, d2, d3, d4, takeV, setR]
    refine ⟨by simp only; omega, fun p hp hpo => ?_⟩
    simp only at hp ⊢
    rw [upd_ne _ _ (by omega), upd_ne _ _ (by omega), upd_ne _ _ hpo, upd_ne _ _ (by omega), upd_ne _ _ (by omega)]
  | some l =>
    have hl := hT l rfl
    have c1 : (bv l).length = 32 := by simp [hl]
    have c2 : (bv l).take 32 = bv l := List.take_of_length_le (by omega)
    have c4 := bv_all l
    have c3 : min 32 32 = 32 := rfl
    simp only
    refine ref_of_body (tyOf_ok _) mixed Try.func28 rfl rfl (fun d => if d = 6 then 3 else 0) (by kernel_rfl) (fun hwf => zin ?_)
    dsimp only [Try.f28]

    simp (maxSteps := 1000000) (dsimp := false) (disch := omega) only [zwp_region_f, zwp_region_t, zwp_seq, znil_none, nilTest_f, nilTest_t, nilOf, zops_nil, zops_none, zstep_eq, zput_some, zthen_some, zfn_fn, vop, veval, toVs, toV1, valloc, vslice, vbnd, strip1, strip0, upd_at, initFr_at, St.new, hintOf, varg1, varg, vargs, List.map_cons, List.map_nil, List.getElem?_cons_zero, List.drop_zero, List.append_nil, Option.map_some, Option.map_none, Option.getD_some, Option.isSome_none, and_self, or_self, Bool.false_eq_true, Bool.or_false, false_implies, eq_self, reduceCtorEq, ↓reduceIte, Nat.reduceLT, Nat.add_zero, Nat.sub_zero, Nat.zero_le, Nat.le_refl, Nat.mul_one, ty5, ty52, n1, n3, b3]
    refine zcall_x (hS _ (by simp only; rw [upd_ne _ _ n3, upd_ne _ _ n1]; exact hR)) ?_ ?_
    · exact fun hw p hp => by
        rw [setR_ne _ _ (by rw [setR_n] at hp; simp only at hp; omega)]
        exact hw p hp

    simp (maxSteps := 1000000) (dsimp := false) (disch := omega) only [zlate_0, zwp_region_f, zwp_seq, zwp_ret, znil_none, nilTest_f, nilTest_t, nilOf, zops_nil, zops_none, zstep_eq, zput_some, zput_none, zthen_some, vop, veval, vstore, vload, vpart, vbuiltin, vsrc, vcopy, upd_at, St.put, V.cells, V.isVal, TD.agg, rret_r, vres, vresL, List.map_cons, List.map_nil, List.take_zero, List.drop_zero, List.nil_append, List.append_nil, List.length_replicate, Option.map_some, Option.some.injEq, true_and, true_or, and_self, ite_self, eq_self, ↓reduceIte, Nat.reduceEqDiff, Nat.zero_add, Nat.le_refl, exists_eq_left', ty5, ty27, ty52, Int.cast_ofNat_Int, if_neg, n1, n2, n3, n4, d3, c1, c2, c3, c4, takeV, setR]
    refine ⟨by simp only; omega, fun p hp hpo => ?_⟩
    simp only at hp ⊢
    rw [upd_ne _ _ (by omega), upd_ne _ _ (by omega), upd_ne _ _ hpo, upd_ne _ _ (by omega), upd_ne _ _ (by omega)]
end Go.Proofs.Ytkcapmodgkficaa
