/- Transactions: how many, and a thing so often. -/
import Derived.Test.YtkcapmodgkficaaTxU
namespace Go.Proofs.Ytkcapmodgkficaa
open Go.Vx Go.Fl
set_option maxRecDepth 100000
set_option maxHeartbeats 4000000
set_option linter.unusedSimpArgs false
set_option linter.unusedVariables false

section
variable {α : Type}
/-- A thing so often, while nothing goes wrong. -/
def iterP (rd : α → RdT) (step : α → α) : Nat → α → α
  | 0, a => a
  | n + 1, a => if (rd a).2 = 0 then iterP rd step n (step a) else a
def manyP (rd : α → RdT) (put : α → RdT → α) (step : α → α) (least most : Nat) (a : α) : α :=
  if (rd a).2 = 0 then
    (if (boundN (rd a).1 most).2.2 = 0 then
      (if (boundN (rd a).1 most).1 < least then put a ((rd a).1, 2) else iterP rd step (boundN (rd a).1 most).1 (put a ((rd a).1.drop (boundN (rd a).1 most).2.1, 0)))
    else put a ((rd a).1, (boundN (rd a).1 most).2.2))
  else a
theorem iterP_stop (rd : α → RdT) (step : α → α) (n : Nat) {a : α} (h : ¬ (rd a).2 = 0) : iterP rd step n a = a := by
  cases n with
  | zero => rfl
  | succ n => rw [iterP, if_neg h]
theorem boundN_le (l : List UInt8) (m : Nat) : (boundN l m).2.2 ≠ 0 ∨ ((boundN l m).2.1 ≤ l.length ∧ (boundN l m).1 ≤ m) := by
  unfold boundN
  split
  · left; assumption
  · rename_i h
    split
    · left; decide
    · right
      refine ⟨?_, by simp only; omega⟩
      simp only
      cases l with
      | nil => exact absurd h (by decide)
      | cons c r =>
        simp only [getN] at h ⊢
        split
        · simp
        · rename_i h0
          rw [if_neg h0] at h
          split
          · simp
          · rename_i h1
            split
            · simp
            · simp only [List.length_cons]; omega

theorem many_ok {F : FuncId} {caps : List V} {o : Nat} (I : Nat → α → St → Prop) (rd : α → RdT) (put : α → RdT → α) (step : α → α) (least most : Nat) (hm : most ≤ 1000)
    (hle : least ≤ 1)
    (hI : ∀ k a σ, I k a σ → σ.h o = rcell (rd a))
    (hP : ∀ k a R σ, (rd a).2 = 0 → I k a σ → R.1.length ≤ (rd a).1.length → I k (put a R) (setR σ o R))
    (hF : ∀ k a σ, k < most → (rd a).2 = 0 → I k a σ → VRef Try.prog F caps σ (fun v σ' => v = .tup [] ∧ I (k + 1) (step a) σ'))
    (σ : St) (a : α) (h0 : I 0 a σ) :
    VRef Try.prog 26 [.ptr o 0, .i .i64 (least : Int), .i .i64 (most : Int), .fn F caps] σ (fun v σ' => v = .tup [] ∧ ∃ k, I k (manyP rd put step least most a) σ') := by
  have hR := hI 0 a σ h0
  by_cases he : (rd a).2 = 0
  · have hP0 := fun R => hP 0 a R σ he h0
    unfold manyP
    rw [if_pos he]
    have hB := cbounded_ok (rd a).1 1 (.inl rfl) most
    have hk := boundN_le (rd a).1 most
    generalize boundN (rd a).1 most = B at *
    obtain ⟨n, k, z⟩ := B
    generalize rd a = R at *
    obtain ⟨L, e⟩ := R
    simp only at he hB hk hP0 ⊢
    subst he
    have hR' : σ.h o = some (.cells [.sl 1 (bv L) .no, .i .i64 0]) := hR
    obtain ⟨h, m⟩ := σ
    simp only at hR'
    have hw : IntKind.u64.wrap (most : Int) = (most : Int) := wrap_u64 (by omega) (by omega)
    by_cases hz : z = 0
    · subst hz
      have hk1 : k ≤ L.length ∧ n ≤ most := by
        rcases hk with h | h
        · exact absurd rfl h
        · exact h
      by_cases hl : n < least
      · have hl' : (n : Int) < (least : Int) := by omega
        simp only [hl, if_true]
        refine ref_of_body (tyOf_ok _) mixed Try.func26 rfl rfl (fun _ => 0) (by kernel_rfl) (fun hwf => zin ?_)
        dsimp only [Try.f26]

        simp (maxSteps := 1000000) (dsimp := false) (disch := omega) only [zwp_skip, zwp_region_f, zwp_seq, zwp_cond, znil_none, nilTest_t, nilOf, zops_nil, zops_none, zstep_eq, zput_some, zcond_f, zthen_some, zfn_fn, vop, veval, toVs, toV1, vload, vpart, vbinX, vbin, vint, BinOp.sh, vconv, vfaddr, strip1, strip0, upd_at, initFr_at, hintOf, TD.agg, varg1, varg, vargs, List.map_cons, List.map_nil, List.getElem?_cons_zero, List.getElem?_cons_succ, List.append_nil, Option.map_some, Option.getD_some, Bool.false_eq_true, Bool.not_true, Bool.or_false, beq_self_eq_true, eq_self, reduceCtorEq, ↓reduceIte, Nat.reduceEqDiff, Nat.zero_add, Nat.add_zero, ty3, ty27, ty30, ty48, ty73, bne, hR', hw]
        refine zcall_pure (hB) (by first | exact fun h => Bool.noConfusion h | exact fun _ => rfl | exact fun _ => free_bv _ _ _) ?_

        simp (maxSteps := 1000000) (dsimp := false) (disch := omega) only [zwp_region_f, zwp_seq, zwp_cond, zwp_block, zwp_ret, znil_none, nilTest_t, nilOf, zops_nil, zops_none, zstep_eq, zput_some, zput_none, zcond_t, zcond_f, zthen_some, vop, veval, toVs, toV1, vstore, vbinX, vbin, vint, BinOp.sh, vfaddr, vext, upd_at, initFr_at, St.put, vrecv, V.cells, V.isVal, rret_r, vres, vresL, List.getElem?_cons_zero, List.getElem?_cons_succ, List.take_succ_cons, List.take_zero, List.drop_succ_cons, List.drop_nil, List.nil_append, List.cons_append, List.append_nil, List.length_cons, List.length_nil, Option.map_some, Option.getD_some, Option.some.injEq, true_and, and_self, Bool.false_eq_true, Bool.not_true, decide_true, beq_self_eq_true, eq_self, reduceCtorEq, ↓reduceIte, Nat.reduceEqDiff, Nat.reduceAdd, Nat.zero_add, Nat.le_refl, exists_eq_left', ty3, ty30, ty73, Int.cast_ofNat_Int, bne, hR', hl']
        exact ⟨0, hP0 (L, 2) (Nat.le_refl _)⟩
      · have hl' : ¬ (n : Int) < (least : Int) := by omega
        have hk2 : ¬ (L.length : Int) < (k : Int) := by omega
        have hk3 := hk1.1
        simp only [hl, if_true, if_false]
        refine ref_of_body (tyOf_ok _) mixed Try.func26 rfl rfl (fun _ => 0) (by kernel_rfl) (fun hwf => zin ?_)
        dsimp only [Try.f26]

        simp (maxSteps := 1000000) (dsimp := false) (disch := omega) only [zwp_skip, zwp_region_f, zwp_seq, zwp_cond, znil_none, nilTest_t, nilOf, zops_nil, zops_none, zstep_eq, zput_some, zcond_f, zthen_some, zfn_fn, vop, veval, toVs, toV1, vload, vpart, vbinX, vbin, vint, BinOp.sh, vconv, vfaddr, strip1, strip0, upd_at, initFr_at, hintOf, TD.agg, varg1, varg, vargs, List.map_cons, List.map_nil, List.getElem?_cons_zero, List.getElem?_cons_succ, List.append_nil, Option.map_some, Option.getD_some, Bool.false_eq_true, Bool.not_true, Bool.or_false, beq_self_eq_true, eq_self, reduceCtorEq, ↓reduceIte, Nat.reduceEqDiff, Nat.zero_add, Nat.add_zero, ty3, ty27, ty30, ty48, ty73, bne, hR', hw]
        refine zcall_pure (hB) (by first | exact fun h => Bool.noConfusion h | exact fun _ => rfl | exact fun _ => free_bv _ _ _) ?_

        simp (maxSteps := 1000000) (dsimp := false) (disch := omega) only [zwp_skip, zwp_region_f, zwp_seq, zwp_cond, zwp_block, znil_none, nilTest_t, nilOf, zops_nil, zops_none, zstep_eq, zput_some, zput_none, zcond_f, zthen_some, int_lt0, vop, veval, toVs, toV1, vstore, vload, vpart, vbinX, vbin, vint, BinOp.sh, vslice, vbnd, vfaddr, vext, upd_at, initFr_at, St.put, vrecv, V.cells, V.isVal, TD.agg, List.getElem?_cons_zero, List.getElem?_cons_succ, List.take_zero, List.drop_succ_cons, List.drop_zero, List.nil_append, List.cons_append, List.length_cons, List.length_nil, Option.map_some, Option.map_none, Option.getD_some, Option.isSome_none, and_true, and_false, true_or, and_self, or_self, Bool.false_eq_true, Bool.not_true, decide_false, ite_self, beq_self_eq_true, false_implies, eq_self, reduceCtorEq, ↓reduceIte, Nat.reduceLeDiff, Nat.reduceEqDiff, Nat.reduceAdd, Nat.zero_add, Nat.add_zero, Nat.le_refl, Int.toNat_natCast, ty3, ty5, ty27, ty30, ty73, Int.cast_ofNat_Int, bv_length, bne, hR', hl', hk3]
        have hA : I 0 (put a (L.drop k, 0)) ⟨upd h o (some (.cells [.sl 1 (List.take (L.length - k) (List.drop k (bv L))) .no, .i .i64 0])), m⟩ := by
          have := hP0 (L.drop k, 0) (by simp)
          have e1 : List.take (L.length - k) (List.drop k (bv L)) = bv (L.drop k) := by
            rw [List.take_of_length_le (by simp), bv_drop]
          rw [e1]
          exact this
        clear hP0 h0
        generalize put a (L.drop k, 0) = A at *
        refine zloop n (fun j fr σ => fr 0 = .ptr o 0 ∧ fr 3 = .fn F caps ∧ fr 50 = .i .i64 (n : Int) ∧ fr 51 = .i .i64 (j : Int) ∧ j ≤ n ∧ ∃ b, I j b σ ∧ iterP rd step (n - j) b = iterP rd step n A) ⟨rfl, rfl, rfl, rfl, Nat.zero_le _, A, hA, rfl⟩ ?_
        clear hA hR hR' hB hk hwf m h
        rintro j fr ⟨h, m⟩ hj ⟨f0, f3, f50, f51, hj', b, hb, hit⟩
        by_cases hlt : j < n
        · have hlt' : (j : Int) < (n : Int) := by omega
          obtain ⟨q, hq⟩ : ∃ q, n - j = q + 1 := ⟨n - j - 1, by omega⟩
          have hq2 : n - (j + 1) = q := by omega
          have hR := hI j b _ hb
          have hR' : h o = some (.cells [.sl 1 (bv (rd b).1) .no, .i .i64 ((rd b).2 : Int)]) := hR
          rw [hq] at hit
          by_cases he : (rd b).2 = 0
          · have he' : ((rd b).2 : Int) = 0 := by omega
            rw [iterP, if_pos he] at hit
            have hC := hF j b ⟨h, m⟩ (by omega) he hb

            simp (maxSteps := 1000000) (dsimp := false) (disch := omega) only [zwp_skip, zwp_region_f, zwp_seq, zwp_cond, zwp_block, znil_none, nilTest_t, nilOf, zops_nil, zops_none, zstep_eq, zput_some, zcond_t, zcond_f, zthen_some, zfn_fn, vop, veval, toVs, toV1, vload, vpart, vbinX, vbin, vint, BinOp.sh, vfaddr, upd_at, hintOf, TD.agg, List.map_nil, List.getElem?_cons_zero, List.getElem?_cons_succ, List.nil_append, Option.map_some, Bool.false_eq_true, Bool.not_true, decide_true, beq_self_eq_true, eq_self, reduceCtorEq, ↓reduceIte, Nat.reduceEqDiff, Nat.zero_add, ty3, ty30, ty73, bne, f0, f3, f50, f51, hlt', hR', he']
            refine zcall_r (hC) ?_
            rintro v ⟨h', m'⟩ ⟨rfl, hb'⟩

            simp (maxSteps := 1000000) (dsimp := false) (disch := omega) only [zwp_region_f, znil_none, nilTest_t, nilOf, zops_nil, zops_none, zstep_eq, zput_some, zthen_some, vop, veval, toVs, toV1, vbinX, vbin, vint, BinOp.sh, upd_at, Option.map_some, V.i.injEq, true_and, Bool.false_eq_true, eq_self, reduceCtorEq, ↓reduceIte, Nat.reduceEqDiff, ty3, wrap_i64, f0, f3, f50, f51]
            exact ⟨hlt, by omega, hlt, step b, hb', by rw [hq2]; exact hit⟩
          · have he' : ¬ ((rd b).2 : Int) = 0 := by omega
            rw [iterP, if_neg he] at hit

            simp (maxSteps := 1000000) (dsimp := false) (disch := omega) only [zwp_skip, zwp_region_f, zwp_seq, zwp_cond, zwp_block, zwp_ret, znil_none, nilTest_t, nilOf, zops_nil, zops_none, zstep_eq, zput_some, zcond_t, zthen_some, int_beq, vop, veval, toVs, toV1, vload, vpart, vbinX, vbin, vint, BinOp.sh, vfaddr, upd_at, TD.agg, rret_r, vres, vresL, List.getElem?_cons_zero, List.getElem?_cons_succ, Option.map_some, Option.some.injEq, true_and, Bool.false_eq_true, Bool.not_false, decide_true, decide_false, eq_self, reduceCtorEq, ↓reduceIte, Nat.zero_add, exists_eq_left', ty3, ty30, ty73, bne, f0, f50, f51, hlt', hR', he']
            exact ⟨j, by rw [← hit]; exact hb⟩
        · have hlt' : ¬ (j : Int) < (n : Int) := by omega
          rw [show n - j = 0 by omega, iterP] at hit

          simp (maxSteps := 1000000) (dsimp := false) (disch := omega) only [zwp_region_f, zwp_seq, zwp_cond, zwp_exit, znil_none, nilTest_t, nilOf, zops_nil, zops_none, zstep_eq, zput_some, zcond_f, zthen_some, vop, veval, vbinX, vbin, vint, BinOp.sh, upd_at, rret_n, vres, vresL, Option.map_some, Option.some.injEq, true_and, Bool.false_eq_true, decide_false, eq_self, ↓reduceIte, exists_eq_left', ty3, f50, f51, hlt']
          exact ⟨j, by rw [← hit]; exact hb⟩
    · have hz' : ¬ (z : Int) = 0 := by omega
      simp only [hz, if_false]
      refine ref_of_body (tyOf_ok _) mixed Try.func26 rfl rfl (fun _ => 0) (by kernel_rfl) (fun hwf => zin ?_)
      dsimp only [Try.f26]

      simp (maxSteps := 1000000) (dsimp := false) (disch := omega) only [zwp_skip, zwp_region_f, zwp_seq, zwp_cond, znil_none, nilTest_t, nilOf, zops_nil, zops_none, zstep_eq, zput_some, zcond_f, zthen_some, zfn_fn, vop, veval, toVs, toV1, vload, vpart, vbinX, vbin, vint, BinOp.sh, vconv, vfaddr, strip1, strip0, upd_at, initFr_at, hintOf, TD.agg, varg1, varg, vargs, List.map_cons, List.map_nil, List.getElem?_cons_zero, List.getElem?_cons_succ, List.append_nil, Option.map_some, Option.getD_some, Bool.false_eq_true, Bool.not_true, Bool.or_false, beq_self_eq_true, eq_self, reduceCtorEq, ↓reduceIte, Nat.reduceEqDiff, Nat.zero_add, Nat.add_zero, ty3, ty27, ty30, ty48, ty73, bne, hR', hw]
      refine zcall_pure (hB) (by first | exact fun h => Bool.noConfusion h | exact fun _ => rfl | exact fun _ => free_bv _ _ _) ?_

      simp (maxSteps := 1000000) (dsimp := false) (disch := omega) only [zwp_region_f, zwp_seq, zwp_cond, zwp_block, zwp_ret, znil_none, nilTest_t, nilOf, zops_nil, zops_none, zstep_eq, zput_some, zput_none, zcond_t, zthen_some, int_beq, vop, veval, toVs, toV1, vstore, vbinX, vbin, vint, BinOp.sh, vfaddr, vext, upd_at, initFr_at, St.put, vrecv, V.cells, V.isVal, rret_r, vres, vresL, List.getElem?_cons_zero, List.getElem?_cons_succ, List.take_succ_cons, List.take_zero, List.drop_succ_cons, List.drop_nil, List.nil_append, List.cons_append, List.append_nil, List.length_cons, List.length_nil, Option.map_some, Option.getD_some, Option.some.injEq, true_and, and_self, Bool.false_eq_true, Bool.not_false, decide_false, eq_self, reduceCtorEq, ↓reduceIte, Nat.reduceEqDiff, Nat.reduceAdd, Nat.zero_add, Nat.le_refl, exists_eq_left', ty30, ty73, bne, hR', hz']
      exact ⟨0, hP0 (L, z) (Nat.le_refl _)⟩
  · have he' : ¬ ((rd a).2 : Int) = 0 := by omega
    unfold manyP
    rw [if_neg he]
    have hR' : σ.h o = some (.cells [.sl 1 (bv (rd a).1) .no, .i .i64 ((rd a).2 : Int)]) := hR
    obtain ⟨h, m⟩ := σ
    simp only at hR'
    refine ref_of_body (tyOf_ok _) mixed Try.func26 rfl rfl (fun _ => 0) (by kernel_rfl) (fun hwf => zin ?_)
    dsimp only [Try.f26]

    simp (maxSteps := 1000000) (dsimp := false) (disch := omega) only [zwp_region_f, zwp_seq, zwp_cond, zwp_ret, znil_none, nilTest_t, nilOf, zops_nil, zops_none, zstep_eq, zput_some, zcond_t, zthen_some, int_beq, vop, veval, toVs, toV1, vload, vpart, vbinX, vbin, vint, BinOp.sh, vfaddr, upd_at, initFr_at, TD.agg, rret_r, vres, vresL, List.getElem?_cons_zero, List.getElem?_cons_succ, Option.map_some, Option.getD_some, Option.some.injEq, true_and, Bool.false_eq_true, Bool.not_false, decide_false, eq_self, reduceCtorEq, ↓reduceIte, Nat.zero_add, exists_eq_left', ty30, ty73, bne, hR', he']
    exact ⟨0, h0⟩
end
end Go.Proofs.Ytkcapmodgkficaa
