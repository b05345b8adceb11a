/- The sum: what stands behind, more summed, the end, twice. No law needs what a sum is: just that it is one. -/
import Derived.Test.YtkcapmodgkficaaSha2
namespace Go.Proofs.Ytkcapmodgkficaa
open Go.Vx Go.Fl
set_option maxRecDepth 100000
set_option maxHeartbeats 4000000
set_option linter.unusedSimpArgs false
set_option linter.unusedVariables false

/-- A number's lowest byte. -/
def b8 (x : Int) : UInt8 := UInt8.ofNat (IntKind.u8.wrap x).toNat
theorem b8_eq (x : Int) : IntKind.u8.wrap x = ((b8 x).toNat : Int) := by
  have h : 0 ≤ IntKind.u8.wrap x ∧ IntKind.u8.wrap x ≤ 255 := by rw [IntKind.wrap_u8]; omega
  unfold b8
  rw [UInt8.toNat_ofNat']
  omega

def padZ (n : Nat) : Nat := (119 - n % 64) % 64
def padI (n : Nat) (j : Nat) : UInt8 := b8 ((IntKind.u64.wrap ((n : Int) * 8)).fdiv (2 ^ (min (((7 - j : Nat) : Int) * 8).toNat IntKind.u64.bits)))
def padJ (n : Nat) : Nat → List UInt8
  | 0 => 128 :: List.replicate (padZ n) 0
  | j + 1 => padJ n j ++ [padI n j]
theorem padJ_length (n : Nat) : ∀ j, (padJ n j).length = 1 + padZ n + j
  | 0 => by simp [padJ]; omega
  | j + 1 => by rw [padJ, List.length_append, padJ_length n j]; simp; omega
def shaPI (n : Nat) (j : Nat) (fr : Nat → V) (σ : St) : Prop := fr 0 = .i .u64 (n : Int) ∧ fr 5 = .i .i64 (7 - (j : Int)) ∧ ((j = 0 ∧ padZ n = 0 ∧ fr 4 = .sl 1 [.i .u8 128] .clip) ∨ ∃ t, t < σ.n ∧ fr 4 = .sl 1 (bv (padJ n j)) (.tok t) ∧ σ.h t = some (.tok 5))
theorem pad_ok (n : Nat) (hn : n ≤ 9223372036854775807) : VPure Try.prog 55 [.i .u64 (n : Int)] (.sl 1 (bv (padJ n 8)) .no) := by
  have z0 : padZ n ≤ 63 := by unfold padZ; omega
  have z1 : IntKind.i64.wrap ((n : Int) % 64) = ((n % 64 : Nat) : Int) := by rw [wrap_i64 (by omega) (by omega)]; omega
  have z2 : (119 - ((n % 64 : Nat) : Int)) % 64 = (padZ n : Int) := by unfold padZ; omega
  have z3 : (0 : Int) ≤ 119 - ((n % 64 : Nat) : Int) := by omega
  have z4 : (List.replicate (padZ n) (V.i .u8 0)).length = padZ n := by simp
  have z5 : (1 + padZ n) * 8 ≤ 140737488355328 := by omega
  refine pure_of_body (tyOf_ok _) mixed Try.func55 rfl rfl (fun _ => 0) (by kernel_rfl) (zin ?_)
  dsimp only [Try.f55]

  have hp0 : padJ n 0 = 128 :: List.replicate (padZ n) 0 := rfl
  have hbr : ∀ m, bv (List.replicate m 0) = List.replicate m (V.i .u8 0) := fun m => by simp [bv]
  simp (maxSteps := 1000000) (dsimp := false) (disch := omega) only [zwp_region_f, zwp_seq, znil_none, nilTest_t, nilOf, zops_nil, zops_none, zstep_eq, zput_some, zthen_some, int_le0, vop, veval, vprt, toVs, toV1, vblit, vlits, zeroElem, vbuiltin, vbinX, vbin, vint, BinOp.sh, vconv, vgrow, strip1, strip0, upd_at, initFr_at, St.tok, V.cells, V.isVal, TD.agg, List.map_cons, List.map_nil, List.getElem?_cons_zero, List.nil_append, List.cons_append, List.length_cons, List.length_nil, List.set_cons_zero, List.isEmpty_cons, Option.map_some, Option.getD_some, Option.any_some, true_and, or_false, and_self, Bool.false_eq_true, Bool.not_false, Bool.and_true, decide_true, eq_self, reduceCtorEq, ↓reduceIte, Nat.reduceLT, Nat.reduceLeDiff, Nat.reduceEqDiff, Nat.reduceBEq, Nat.zero_add, Nat.mul_one, Int.toNat_natCast, Int.reduceEq, List.cons_ne_nil, ty3, ty5, ty27, ty48, List.replicate_zero, wrap_i64, rem_pos, if_pos, z1, z2, z4, vappZ, vappC, List.replicate_succ]
  rcases Nat.eq_zero_or_pos (padZ n) with hz | hz
  · have hz1 : (List.replicate (padZ n) (V.i .u8 0)).isEmpty = true := by rw [hz]; rfl

    simp (maxSteps := 1000000) (dsimp := false) (disch := omega) only [zwp_region_f, zwp_seq, zwp_block, znil_none, nilTest_t, nilOf, zops_nil, zops_none, zstep_eq, zput_some, zthen_some, vop, veval, toVs, toV1, upd_at, eq_self, ↓reduceIte, hz1]
    refine zloop 8 (shaPI n) ⟨rfl, rfl, .inl ⟨rfl, hz, rfl⟩⟩ ?_
    rintro j fr ⟨h, σn⟩ hj ⟨f0, f5, hR⟩
    by_cases hlt : j < 8
    · have f5' : fr 5 = .i .i64 ((7 - j : Nat) : Int) := by rw [f5]; congr 1; omega
      have e1 : IntKind.u64.wrap (((7 - j : Nat) : Int) * 8) = ((7 - j : Nat) : Int) * 8 := wrap_u64 (by omega) (by omega)
      have e2 : (((7 - j : Nat) : Int) * 8 < 0) = False := eq_false (by omega)
      have e3 := b8_eq ((IntKind.u64.wrap ((n : Int) * 8)).fdiv (2 ^ (min (((7 - j : Nat) : Int) * 8).toNat IntKind.u64.bits)))
      have e4 : b8 ((IntKind.u64.wrap ((n : Int) * 8)).fdiv (2 ^ (min (((7 - j : Nat) : Int) * 8).toNat IntKind.u64.bits))) = padI n j := rfl
      rw [e4] at e3
      have e5 : ((7 - j : Nat) : Int) - 1 = 7 - ((j + 1 : Nat) : Int) := by omega
      have e6 : padJ n (j + 1) = padJ n j ++ [padI n j] := rfl
      have e7 := padJ_length n j
      have e8 : (1 + padZ n + j + 1) * 8 ≤ 140737488355328 := by omega
      have e9 : bv (padJ n j ++ [padI n j]) = bv (padJ n j) ++ [.i .u8 ((padI n j).toNat : Int)] := by rw [← bv_append]; rfl
      simp only at hR
      rcases hR with ⟨hj0, hz, f4⟩ | ⟨t, ht, f4, g⟩
      · have e10 : padJ n j = [128] := by rw [hj0, hp0, hz]; rfl
        rw [e10] at e6 e9

        simp (maxSteps := 1000000) (dsimp := false) (disch := omega) only [zwp_skip, zwp_region_f, zwp_seq, zwp_cond, zwp_block, znil_none, nilTest_t, nilOf, zops_nil, zops_none, zstep_eq, zput_some, zcond_t, zthen_some, int_le0, vop, veval, vprt, toVs, toV1, vblit, vlits, zeroElem, vbuiltin, vbinX, vbin, vint, vshift, BinOp.sh, vconv, vapp, vsrc, vgrow, strip1, strip0, upd_at, St.tok, V.cells, V.isVal, TD.agg, List.map_cons, List.map_nil, List.nil_append, List.cons_append, List.length_cons, List.length_nil, List.replicate_one, List.set_cons_zero, List.isEmpty_cons, Option.map_some, Option.any_some, or_false, and_self, Bool.false_eq_true, Bool.not_false, Bool.and_true, decide_true, eq_self, reduceCtorEq, ↓reduceIte, Nat.reduceLT, Nat.reduceLeDiff, Nat.reduceEqDiff, Nat.reduceAdd, Nat.reduceBEq, Nat.zero_add, Nat.mul_one, List.cons_ne_nil, ty3, ty5, ty27, ty48, ty81, ge_iff_le, wrap_i64, f0, f5', f4, e1, e2, e3, e5]
        exact ⟨by omega, f0, rfl, .inr ⟨_, Nat.lt_succ_self _, by rw [e6, e9]; rfl, upd_same _ _ _⟩⟩
      · skip
        simp (maxSteps := 1000000) (dsimp := false) (disch := omega) only [zwp_skip, zwp_region_f, zwp_seq, zwp_cond, zwp_block, znil_none, nilTest_t, nilOf, zops_nil, zops_none, zstep_eq, zput_some, zcond_t, zthen_some, int_le0, vop, veval, vprt, toVs, toV1, vblit, vlits, zeroElem, vbuiltin, vbinX, vbin, vint, vshift, BinOp.sh, vconv, vapp, vsrc, vgrow, strip1, strip0, upd_at, St.tok, V.cells, V.isVal, TD.agg, List.map_cons, List.map_nil, List.length_cons, List.length_nil, List.replicate_one, List.set_cons_zero, List.isEmpty_cons, Option.map_some, Option.any_some, true_and, true_or, or_false, and_self, Bool.false_eq_true, Bool.false_and, Bool.and_false, decide_true, decide_false, eq_self, reduceCtorEq, ↓reduceIte, Nat.reduceLT, Nat.reduceLeDiff, Nat.reduceEqDiff, Nat.reduceBEq, Nat.zero_add, Nat.mul_one, List.cons_ne_nil, ty3, ty5, ty27, ty48, ty81, bv_length, ge_iff_le, wrap_i64, if_pos, bv_length, f0, f5', f4, e1, e2, e3, e5, e7, g]
        exact ⟨by omega, f0, rfl, .inr ⟨_, Nat.lt_succ_self _, by rw [e6, e9]; rfl, upd_same _ _ _⟩⟩
    · have hje : j = 8 := by omega
      subst hje
      simp only at hR
      rcases hR with ⟨h0, _⟩ | ⟨t, ht, f4, g⟩
      · cases h0
      · skip
        simp (maxSteps := 1000000) (dsimp := false) (disch := omega) only [zwp_region_f, zwp_seq, zwp_cond, zwp_exit, zwp_ret, znil_none, nilTest_t, nilOf, zops_nil, zops_none, zstep_eq, zput_some, zcond_f, zthen_some, vop, veval, toVs, toV1, vbinX, vbin, vint, BinOp.sh, upd_at, vret_r, vres, vresL, vseal, Option.map_some, Option.bind_some, Option.some.injEq, Bool.false_eq_true, decide_false, eq_self, ↓reduceIte, Nat.reduceEqDiff, Int.reduceLE, Int.reduceSub, Int.reduceNeg, exists_eq_left', ty3, Int.cast_ofNat_Int, ge_iff_le, f5, f4, g]
        exact .of (.one (.no _ _ _))
  · have hz1 : (List.replicate (padZ n) (V.i .u8 0)).isEmpty = false := by
      cases h : padZ n with
      | zero => omega
      | succ m => rfl

    simp (maxSteps := 1000000) (dsimp := false) (disch := omega) only [zwp_region_f, zwp_seq, zwp_block, znil_none, nilTest_t, nilOf, zops_nil, zops_none, zstep_eq, zput_some, zthen_some, vop, veval, toVs, toV1, upd_at, Bool.false_eq_true, eq_self, ↓reduceIte, hz1]
    refine zloop 8 (shaPI n) ⟨rfl, rfl, .inr ⟨0, by simp, by rw [hp0]; simp [upd_at, bv], by simp [upd_at]⟩⟩ ?_
    rintro j fr ⟨h, σn⟩ hj ⟨f0, f5, hR⟩
    by_cases hlt : j < 8
    · have f5' : fr 5 = .i .i64 ((7 - j : Nat) : Int) := by rw [f5]; congr 1; omega
      have e1 : IntKind.u64.wrap (((7 - j : Nat) : Int) * 8) = ((7 - j : Nat) : Int) * 8 := wrap_u64 (by omega) (by omega)
      have e2 : (((7 - j : Nat) : Int) * 8 < 0) = False := eq_false (by omega)
      have e3 := b8_eq ((IntKind.u64.wrap ((n : Int) * 8)).fdiv (2 ^ (min (((7 - j : Nat) : Int) * 8).toNat IntKind.u64.bits)))
      have e4 : b8 ((IntKind.u64.wrap ((n : Int) * 8)).fdiv (2 ^ (min (((7 - j : Nat) : Int) * 8).toNat IntKind.u64.bits))) = padI n j := rfl
      rw [e4] at e3
      have e5 : ((7 - j : Nat) : Int) - 1 = 7 - ((j + 1 : Nat) : Int) := by omega
      have e6 : padJ n (j + 1) = padJ n j ++ [padI n j] := rfl
      have e7 := padJ_length n j
      have e8 : (1 + padZ n + j + 1) * 8 ≤ 140737488355328 := by omega
      have e9 : bv (padJ n j ++ [padI n j]) = bv (padJ n j) ++ [.i .u8 ((padI n j).toNat : Int)] := by rw [← bv_append]; rfl
      simp only at hR
      rcases hR with ⟨hj0, hz, f4⟩ | ⟨t, ht, f4, g⟩
      · omega
      · skip
        simp (maxSteps := 1000000) (dsimp := false) (disch := omega) only [zwp_skip, zwp_region_f, zwp_seq, zwp_cond, zwp_block, znil_none, nilTest_t, nilOf, zops_nil, zops_none, zstep_eq, zput_some, zcond_t, zthen_some, int_le0, vop, veval, vprt, toVs, toV1, vblit, vlits, zeroElem, vbuiltin, vbinX, vbin, vint, vshift, BinOp.sh, vconv, vapp, vsrc, vgrow, strip1, strip0, upd_at, St.tok, V.cells, V.isVal, TD.agg, List.map_cons, List.map_nil, List.length_cons, List.length_nil, List.replicate_one, List.set_cons_zero, List.isEmpty_cons, Option.map_some, Option.any_some, true_and, true_or, or_false, and_self, Bool.false_eq_true, Bool.false_and, Bool.and_false, decide_true, decide_false, eq_self, reduceCtorEq, ↓reduceIte, Nat.reduceLT, Nat.reduceLeDiff, Nat.reduceEqDiff, Nat.reduceBEq, Nat.zero_add, Nat.mul_one, List.cons_ne_nil, ty3, ty5, ty27, ty48, ty81, bv_length, ge_iff_le, wrap_i64, if_pos, bv_length, f0, f5', f4, e1, e2, e3, e5, e7, g]
        exact ⟨by omega, f0, rfl, .inr ⟨_, Nat.lt_succ_self _, by rw [e6, e9]; rfl, upd_same _ _ _⟩⟩
    · have hje : j = 8 := by omega
      subst hje
      simp only at hR
      rcases hR with ⟨h0, _⟩ | ⟨t, ht, f4, g⟩
      · cases h0
      · skip
        simp (maxSteps := 1000000) (dsimp := false) (disch := omega) only [zwp_region_f, zwp_seq, zwp_cond, zwp_exit, zwp_ret, znil_none, nilTest_t, nilOf, zops_nil, zops_none, zstep_eq, zput_some, zcond_f, zthen_some, vop, veval, toVs, toV1, vbinX, vbin, vint, BinOp.sh, upd_at, vret_r, vres, vresL, vseal, Option.map_some, Option.bind_some, Option.some.injEq, Bool.false_eq_true, decide_false, eq_self, ↓reduceIte, Nat.reduceEqDiff, Int.reduceLE, Int.reduceSub, Int.reduceNeg, exists_eq_left', ty3, Int.cast_ofNat_Int, ge_iff_le, f5, f4, g]
        exact .of (.one (.no _ _ _))

theorem start_ok : VPure Try.prog 51 [] (.agg (uw h0E ++ [.sl 1 [] .no, .i .u64 0])) := by
  refine pure_of_body (tyOf_ok _) mixed Try.func51 rfl rfl (fun _ => 0) (by kernel_rfl) (zin ?_)
  dsimp only [Try.f51]

  simp (maxSteps := 1000000) (dsimp := false) (disch := omega) only [zwp_region_f, zwp_seq, znil_none, nilTest_t, nilOf, zops_nil, zops_none, zstep_eq, zput_some, zthen_some, zfn_fn, vop, veval, valloc, St.new, hintOf, vargs, List.map_nil, List.append_nil, Nat.zero_add, ty100]
  refine zcall_pure (initials_ok) (by first | exact fun h => Bool.noConfusion h | exact fun _ => rfl | exact fun _ => free_bv _ _ _) ?_
  simp only [uw, h0E, List.map_cons, List.map_nil]
  simp (maxSteps := 1000000) (dsimp := false) (disch := omega) only [zwp_ret, znil_none, nilTest_t, nilOf, zops_nil, zops_none, zstep_eq, zput_some, zput_none, zthen_some, vop, veval, vprt, vstore, vload, vpart, vbuild, vfill, strip1, stripL, strip0, strip, upd_at, St.put, vrecv, V.cells, V.isVal, TD.agg, vret_r, vres, vresL, vseal, List.map_cons, List.map_nil, List.getElem?_cons_zero, List.take_succ_cons, List.take_zero, List.take_nil, List.drop_succ_cons, List.drop_zero, List.drop_nil, List.nil_append, List.cons_append, List.append_nil, List.length_cons, List.length_nil, Option.map_some, Option.bind_some, Option.some.injEq, and_self, eq_self, reduceCtorEq, ↓reduceIte, Nat.reduceLeDiff, Nat.reduceAdd, Nat.zero_add, Nat.le_refl, exists_eq_left', ty98, ty100]
  exact .of (.agg (.cons (.refl _) (.cons (.refl _) (.cons (.refl _) (.cons (.refl _) (.cons (.refl _) (.cons (.refl _) (.cons (.refl _) (.cons (.refl _) (.cons (.nil _ _ _) (.cons (.refl _) .nil)))))))))))

/-- How far a sum has come. -/
def stv (h : List Int) (rest : List UInt8) (n : Nat) : V := .agg (uw h ++ [.sl 1 (bv rest) .no, .i .u64 (n : Int)])
theorem shaSane_ok (h : List Int) (rest : List UInt8) (n : Nat) (hh : h.length = 8) (hl : rest.length = n % 64) : VPure Try.prog 54 [stv h rest n] (.b true) := by
  match h, hh with
  | [a0, a1, a2, a3, a4, a5, a6, a7], _ =>
  have e1 : IntKind.u64.wrap ((rest.length : Nat) : Int) = ((rest.length : Nat) : Int) := wrap_u64 (by omega) (by omega)
  have e2 : ((rest.length : Nat) : Int) = (n : Int) % 64 := by omega
  have e3 : ((rest.length : Nat) : Int) % 64 = (rest.length : Int) := by omega
  refine pure_of_body (tyOf_ok _) mixed Try.func54 rfl rfl (fun _ => 0) (by kernel_rfl) (zin ?_)
  dsimp only [Try.f54]

  simp (maxSteps := 1000000) (dsimp := false) (disch := omega) only [zwp_region_f, zwp_seq, zwp_ret, znil_none, nilTest_t, nilOf, zops_nil, zops_none, zstep_eq, zput_some, zthen_some, vop, veval, toVs, toV1, vbox, vload, vpart, vbuiltin, vlen, vbinX, vbin, vint, BinOp.sh, vconv, vfaddr, strip1, strip0, strip, upd_at, initFr_at, St.new, V.cells, V.isVal, TD.agg, vret_r, vres, vresL, vseal, List.map_cons, List.map_nil, List.getElem?_cons_zero, List.getElem?_cons_succ, List.nil_append, List.cons_append, Option.map_some, Option.getD_some, Option.bind_some, Option.some.injEq, Bool.false_eq_true, beq_self_eq_true, eq_self, reduceCtorEq, ↓reduceIte, Nat.reduceEqDiff, Nat.zero_add, Int.reduceEq, exists_eq_left', Vle_self, ty3, ty27, ty48, ty100, bv_length, wrap_u64, rem_pos, bv_length, stv, uw, e2]
end Go.Proofs.Ytkcapmodgkficaa
