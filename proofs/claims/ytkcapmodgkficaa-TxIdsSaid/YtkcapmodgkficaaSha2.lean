/- The sum: a block, what stands behind, more summed, the end. No law needs what a sum is: just that it is one. -/
import Derived.Test.YtkcapmodgkficaaSha1
namespace Go.Proofs.Ytkcapmodgkficaa
open Go.Vx Go.Fl
set_option maxRecDepth 100000
set_option maxHeartbeats 4000000
set_option linter.unusedSimpArgs false
set_option linter.unusedVariables false

def cE : List Int := [0x428a2f98, 0x71374491, 0xb5c0fbcf, 0xe9b5dba5, 0x3956c25b, 0x59f111f1, 0x923f82a4, 0xab1c5ed5,
  0xd807aa98, 0x12835b01, 0x243185be, 0x550c7dc3, 0x72be5d74, 0x80deb1fe, 0x9bdc06a7, 0xc19bf174,
  0xe49b69c1, 0xefbe4786, 0x0fc19dc6, 0x240ca1cc, 0x2de92c6f, 0x4a7484aa, 0x5cb0a9dc, 0x76f988da,
  0x983e5152, 0xa831c66d, 0xb00327c8, 0xbf597fc7, 0xc6e00bf3, 0xd5a79147, 0x06ca6351, 0x14292967,
  0x27b70a85, 0x2e1b2138, 0x4d2c6dfc, 0x53380d13, 0x650a7354, 0x766a0abb, 0x81c2c92e, 0x92722c85,
  0xa2bfe8a1, 0xa81a664b, 0xc24b8b70, 0xc76c51a3, 0xd192e819, 0xd6990624, 0xf40e3585, 0x106aa070,
  0x19a4c116, 0x1e376c08, 0x2748774c, 0x34b0bcb5, 0x391c0cb3, 0x4ed8aa4a, 0x5b9cca4f, 0x682e6ff3,
  0x748f82ee, 0x78a5636f, 0x84c87814, 0x8cc70208, 0x90befffa, 0xa4506ceb, 0xbef9a3f7, 0xc67178f2]
theorem constants_ok : VPure Try.prog 60 [] (.agg (uw cE)) := by
  refine pure_of_body (tyOf_ok _) mixed Try.func60 rfl rfl (fun _ => 0) (by kernel_rfl) (Eq.mpr (?_ : _ = ∃ r', (some (V.agg (uw cE)) : Option V) = some r' ∧ Vle r' (.agg (uw cE))) ⟨_, rfl, .refl _⟩)
  kernel_rfl
def h0E : List Int := [0x6a09e667, 0xbb67ae85, 0x3c6ef372, 0xa54ff53a, 0x510e527f, 0x9b05688c, 0x1f83d9ab, 0x5be0cd19]
theorem initials_ok : VPure Try.prog 57 [] (.agg (uw h0E)) := by
  refine pure_of_body (tyOf_ok _) mixed Try.func57 rfl rfl (fun _ => 0) (by kernel_rfl) (zin ?_)
  dsimp only [Try.f57]

  simp (maxSteps := 1000000) (dsimp := false) (disch := omega) only [zwp_region_f, zwp_seq, zwp_ret, znil_none, nilTest_t, nilOf, zops_nil, zops_none, zstep_eq, zput_some, zput_none, zthen_some, vop, veval, vprt, toVs, toV1, valloc, vstore, vload, vpart, vbuild, vfill, strip1, stripL, strip0, strip, upd_at, St.new, St.put, V.cells, V.isVal, TD.agg, vret_r, vres, vresL, vseal, List.map_cons, List.map_nil, List.take_succ_cons, List.take_zero, List.take_nil, List.drop_succ_cons, List.drop_zero, List.drop_nil, List.nil_append, List.cons_append, List.append_nil, List.length_cons, List.length_nil, Option.map_some, Option.bind_some, Option.some.injEq, and_self, eq_self, reduceCtorEq, ↓reduceIte, Nat.reduceLeDiff, Nat.reduceAdd, Nat.zero_add, Nat.le_refl, Nat.mul_one, exists_eq_left', ty22, ty98]
  exact .refl _

/-- A round. -/
def rndE (v : List Int) (k w : Int) : List Int := match v with
  | [a0, a1, a2, a3, a4, a5, a6, a7] =>
    let t := aE (aE (aE (aE a7 (turnE a4 [6, 11, 25])) (xE a6 (nE a4 (xE a5 a6)))) k) w
    [aE (aE t (turnE a0 [2, 13, 22])) (oE (nE a0 a1) (nE a2 (oE a0 a1))), a0, a1, a2, aE a3 t, a4, a5, a6]
  | v => v
theorem rndE_length {v : List Int} (h : v.length = 8) (k w : Int) : (rndE v k w).length = 8 := by
  match v, h with
  | [_, _, _, _, _, _, _, _], _ => rfl
def rndsE (h : List Int) (w : List Int) : Nat → List Int
  | 0 => h
  | i + 1 => rndE (rndsE h w i) (cE.getD i 0) (w.getD i 0)
theorem rndsE_length {h : List Int} (hh : h.length = 8) (w : List Int) : ∀ i, (rndsE h w i).length = 8
  | 0 => hh
  | i + 1 => rndE_length (rndsE_length hh w i) _ _
def addE (v h : List Int) : Nat → List Int
  | 0 => v
  | i + 1 => (addE v h i).set i (aE ((addE v h i).getD i 0) (h.getD i 0))
theorem addE_length (v h : List Int) : ∀ i, (addE v h i).length = v.length
  | 0 => rfl
  | i + 1 => by rw [addE, List.length_set, addE_length v h i]
def blockE (h : List Int) (b : List UInt8) : List Int := addE (rndsE h (restE b 48) 64) h 8
theorem blockE_length {h : List Int} (hh : h.length = 8) (b : List UInt8) : (blockE h b).length = 8 := by
  rw [blockE, addE_length, rndsE_length hh]

theorem block_ok (h : List Int) (hh : h.length = 8) (b : List UInt8) (hb : b.length = 64) : VPure Try.prog 56 [.agg (uw h), .sl 1 (bv b) .no] (.agg (uw (blockE h b))) := by
  have S := schedule_ok b hb
  have hW := restE_length b 48
  rw [show blockE h b = addE (rndsE h (restE b 48) 64) h 8 from rfl]
  generalize restE b 48 = W at *
  have hb' : (b.length : Int) = 64 := by omega
  have lh := uw_length h
  rw [hh] at lh
  have lW := uw_length W
  rw [hW] at lW
  have lc : (uw cE).length = 64 := rfl
  have tk : ∀ {l : List Int} {n : Nat}, l.length = n → List.take n (uw l) = uw l := fun h => List.take_of_length_le (by rw [uw_length, h]; exact Nat.le_refl _)
  have t1 := tk hh
  have t2 := tk hW
  have t3 : List.take 64 (uw cE) = uw cE := rfl
  have dk : ∀ {l : List Int} {n : Nat}, l.length = n → List.drop n (uw l) = [] := fun h => List.drop_eq_nil_of_le (by rw [uw_length, h]; exact Nat.le_refl _)
  have d1 := dk hh
  have d2 := dk hW
  refine pure_of_body (tyOf_ok _) mixed Try.func56 rfl rfl (fun _ => 0) (by kernel_rfl) (zin ?_)
  dsimp only [Try.f56]
  have d3 : List.drop 64 (List.replicate 64 (V.i .u32 0)) = [] := rfl
  have d4 : List.drop 64 (uw cE) = [] := rfl

  simp (maxSteps := 1000000) (dsimp := false) (disch := omega) only [zwp_skip, zwp_region_f, zwp_seq, zwp_cond, znil_none, nilTest_t, nilOf, zops_nil, zops_none, zstep_eq, zput_some, zcond_f, zthen_some, zfn_fn, vop, veval, toVs, toV1, valloc, vbox, vbuiltin, vlen, vbinX, vbin, vint, BinOp.sh, strip1, strip0, upd_at, initFr_at, St.new, hintOf, V.cells, V.isVal, varg1, varg, vargs, List.map_cons, List.map_nil, List.getElem?_cons_zero, List.getElem?_cons_succ, List.append_nil, Option.map_some, Option.getD_some, Bool.false_eq_true, Bool.not_true, Bool.or_false, beq_self_eq_true, eq_self, ↓reduceIte, Nat.reduceEqDiff, Nat.reduceAdd, Nat.zero_add, ty3, ty27, ty98, bv_length, bne, bv_length, hb']
  refine zcall_pure (S) (by first | exact fun h => Bool.noConfusion h | exact fun _ => rfl | exact fun _ => free_bv _ _ _) ?_
  simp (maxSteps := 1000000) (dsimp := false) (disch := omega) only [znil_none, nilTest_t, nilOf, zops_none, zstep_eq, zput_some, zfn_fn, veval, vrecv, hintOf, vargs, List.map_nil, List.append_nil]
  refine zcall_pure (constants_ok) (by first | exact fun h => Bool.noConfusion h | exact fun _ => rfl | exact fun _ => free_bv _ _ _) ?_
  simp (maxSteps := 1000000) (dsimp := false) (disch := omega) only [zwp_region_f, zwp_seq, zwp_block, znil_none, nilTest_t, nilOf, zops_nil, zops_none, zstep_eq, zput_some, zput_none, zthen_some, vop, veval, toVs, toV1, valloc, vstore, vload, vpart, upd_at, St.new, St.put, vrecv, V.cells, V.isVal, TD.agg, List.take_zero, List.drop_succ_cons, List.drop_zero, List.drop_nil, List.nil_append, List.append_nil, List.length_cons, List.length_nil, List.length_replicate, Option.map_some, and_self, eq_self, reduceCtorEq, ↓reduceIte, Nat.reduceEqDiff, Nat.reduceAdd, Nat.zero_add, Nat.le_refl, ty98, ty112, lh, lW, lc, t1, d3]
  refine zloop 64 (fun i fr σ => fr 2 = .ptr 0 0 ∧ fr 4 = .ptr 1 0 ∧ fr 5 = .ptr 2 0 ∧ fr 6 = .ptr 3 0 ∧ fr 7 = .ptr 4 0 ∧ fr 21 = .i .i64 (i : Int) ∧ σ.h 0 = some (.cells (uw h)) ∧ (∃ cs, σ.h 1 = some (.cells cs) ∧ cs.length = 8) ∧ σ.h 2 = some (.cells (uw W)) ∧ σ.h 3 = some (.cells (uw cE)) ∧ σ.h 4 = some (.cells (uw (rndsE h W i)))) ⟨rfl, rfl, rfl, rfl, rfl, rfl, rfl, ⟨_, rfl, rfl⟩, by simp [upd_at], by simp [upd_at], rfl⟩ ?_
  rintro i fr ⟨s, n⟩ hi ⟨f2, f4, f5, f6, f7, f21, g0, ⟨cs, g1, gl⟩, g2, g3, g4⟩
  simp only at g0 g1 g2 g3 g4
  have hv := rndsE_length hh W i
  by_cases hlt : i < 64
  · have hlt' : (i : Int) < 64 := by omega
    rw [show rndsE h W (i + 1) = rndE (rndsE h W i) (cE.getD i 0) (W.getD i 0) from rfl]
    generalize rndsE h W i = v at *
    match v, hv with
    | [a0, a1, a2, a3, a4, a5, a6, a7], _ =>
    have g4' : s 4 = some (.cells [.i .u32 a0, .i .u32 a1, .i .u32 a2, .i .u32 a3, .i .u32 a4, .i .u32 a5, .i .u32 a6, .i .u32 a7]) := g4
    have kc := uw_get (l := cE) (i := i) hlt
    have hmax : 8 ≤ maxLen := by unfold maxLen; omega
    have kw := uw_get (l := W) (i := i) (by omega)

    simp (maxSteps := 1000000) (dsimp := false) (disch := omega) only [zwp_skip, zwp_region_f, zwp_region_t, zwp_seq, zwp_cond, zwp_block, znil_none, nilTest_f, nilTest_t, nilOf, zops_nil, zops_none, zstep_eq, zput_some, zcond_t, zthen_some, zfn_fn, vop, veval, vprt, toVs, toV1, vload, vpart, vblit, vlits, zeroElem, vbinX, vbin, vint, BinOp.sh, viaddr, strip1, strip0, upd_at, hintOf, V.cells, V.isVal, TD.agg, varg1, varg, vargs, List.map_cons, List.map_nil, List.getElem?_cons_zero, List.getElem?_cons_succ, List.append_nil, List.length_cons, List.length_nil, List.set_cons_zero, List.set_cons_succ, Option.map_some, and_self, Bool.false_eq_true, Bool.or_false, decide_true, eq_self, ↓reduceIte, Nat.reduceLT, Nat.reduceLeDiff, Nat.reduceEqDiff, Nat.reduceAdd, Nat.zero_add, Nat.add_zero, Nat.mul_one, Int.reduceLT, Int.reduceToNat, ty3, ty22, ty98, ty117, List.replicate_zero, f7, f21, g4', hlt', xE_d, nE_d, oE_d, List.replicate_succ]
    refine zcall_pure (turned_ok _ [6, 11, 25] (by decide)) (by first | exact fun h => Bool.noConfusion h | exact fun _ => rfl | exact fun _ => free_bv _ _ _) ?_
    simp (maxSteps := 1000000) (dsimp := false) (disch := omega) only [zlate_0, zwp_region_f, zwp_region_t, zwp_seq, znil_none, nilTest_f, nilTest_t, nilOf, zops_nil, zops_none, zstep_eq, zput_some, zput_none, zthen_some, zfn_fn, int_lt0, vop, veval, vprt, toVs, toV1, vstore, vload, vpart, vblit, vlits, zeroElem, vbuiltin, vbinX, vbin, vint, BinOp.sh, vslice, vbnd, viaddr, vsrc, vcopy, strip1, stripL, strip0, upd_at, St.put, vrecv, hintOf, V.cells, V.isVal, V.one, TD.agg, varg1, varg, vargs, List.map_cons, List.map_nil, List.getElem?_cons_zero, List.getElem?_cons_succ, List.take_succ_cons, List.take_zero, List.take_nil, List.drop_succ_cons, List.drop_zero, List.drop_nil, List.nil_append, List.cons_append, List.append_nil, List.length_cons, List.length_nil, List.set_cons_zero, List.set_cons_succ, List.all_cons, List.all_nil, Option.map_some, Option.map_none, Option.isSome_some, Option.isSome_none, or_false, and_self, or_self, Bool.false_eq_true, Bool.and_true, Bool.or_false, false_implies, eq_self, reduceCtorEq, ↓reduceIte, Nat.reduceLT, Nat.reduceLeDiff, Nat.reduceEqDiff, Nat.reduceAdd, Nat.reduceSub, Nat.zero_add, Nat.add_zero, Nat.sub_zero, Nat.zero_le, Nat.le_refl, Nat.mul_one, Int.toNat_natCast, Int.reduceLT, Int.reduceToNat, ty3, ty22, ty98, ty112, ty116, ty117, List.replicate_zero, Int.cast_ofNat_Int, f5, f6, f7, g2, g3, g4', hlt, kc, kw, aE_d, List.replicate_succ, hmax, Nat.min_self]
    refine zcall_pure (turned_ok _ [2, 13, 22] (by decide)) (by first | exact fun h => Bool.noConfusion h | exact fun _ => rfl | exact fun _ => free_bv _ _ _) ?_
    simp (maxSteps := 1000000) (dsimp := false) (disch := omega) only [zwp_region_f, znil_none, nilTest_t, nilOf, zops_nil, zops_none, zstep_eq, zput_some, zput_none, zthen_some, vop, veval, toVs, toV1, vstore, vbinX, vbin, vint, BinOp.sh, viaddr, upd_at, St.put, vrecv, V.cells, V.isVal, List.take_zero, List.drop_succ_cons, List.drop_zero, List.nil_append, List.cons_append, List.length_cons, List.length_nil, Option.map_some, Option.some.injEq, V.i.injEq, true_and, and_self, Bool.false_eq_true, eq_self, reduceCtorEq, ↓reduceIte, Nat.reduceLT, Nat.reduceLeDiff, Nat.reduceEqDiff, Nat.reduceAdd, Nat.zero_add, Nat.add_zero, Nat.mul_one, Int.reduceLT, Int.reduceToNat, ty3, ty22, ty98, wrap_i64, f2, f4, f5, f6, f7, f21, g0, g1, g2, g3, hlt, aE_d]
    exact ⟨by omega, ⟨_, rfl, gl⟩, rfl⟩
  · have hie : i = 64 := by omega
    subst hie
    generalize rndsE h W 64 = v at *

    simp (maxSteps := 1000000) (dsimp := false) (disch := omega) only [zwp_region_f, zwp_seq, zwp_cond, zwp_block, zwp_exit, znil_none, nilTest_t, nilOf, zops_nil, zops_none, zstep_eq, zput_some, zcond_f, zthen_some, vop, veval, toVs, toV1, vbinX, vbin, vint, BinOp.sh, upd_at, Option.map_some, Bool.false_eq_true, decide_false, eq_self, ↓reduceIte, Int.reduceLT, ty3, Int.cast_ofNat_Int, f21]
    refine zloop 8 (fun j fr σ => fr 2 = .ptr 0 0 ∧ fr 4 = .ptr 1 0 ∧ fr 7 = .ptr 4 0 ∧ fr 84 = .i .i64 (j : Int) ∧ σ.h 0 = some (.cells (uw h)) ∧ (∃ cs, σ.h 1 = some (.cells cs) ∧ cs.length = 8) ∧ σ.h 4 = some (.cells (uw (addE v h j)))) ⟨f2, f4, f7, rfl, g0, ⟨cs, g1, gl⟩, g4⟩ ?_
    clear f2 f4 f5 f6 f7 f21 g0 g1 g2 g3 g4 gl cs fr s n hlt hi
    rintro j fr ⟨s, n⟩ hj ⟨f2, f4, f7, f84, g0, ⟨cs, g1, gl⟩, g4⟩
    simp only at g0 g1 g4
    have hx := addE_length v h j
    rw [hv] at hx
    by_cases hlt : j < 8
    · have hlt' : (j : Int) < 8 := by omega
      rw [show addE v h (j + 1) = (addE v h j).set j (aE ((addE v h j).getD j 0) (h.getD j 0)) from rfl]
      generalize addE v h j = X at *
      have k1 := uw_get (l := X) (i := j) (by omega)
      have k2 := uw_get (l := h) (i := j) (by omega)
      have k3 := fun y => uw_set (l := X) (i := j) (by omega) y
      have k4 := uw_length X
      rw [hx] at k4

      simp (maxSteps := 1000000) (dsimp := false) (disch := omega) only [zlate_0, zwp_skip, zwp_region_f, zwp_region_t, zwp_seq, zwp_cond, zwp_block, znil_none, nilTest_f, nilTest_t, nilOf, zops_nil, zops_none, zstep_eq, zput_some, zput_none, zcond_t, zthen_some, int_lt0, vop, veval, toVs, toV1, vstore, vload, vpart, vbinX, vbin, vint, BinOp.sh, viaddr, upd_at, St.put, V.cells, V.isVal, TD.agg, List.nil_append, List.cons_append, List.length_cons, List.length_nil, List.append_assoc, Option.map_some, Option.some.injEq, V.i.injEq, and_true, true_and, Bool.false_eq_true, decide_true, eq_self, reduceCtorEq, ↓reduceIte, Nat.reduceLeDiff, Nat.reduceEqDiff, Nat.zero_add, Nat.mul_one, Int.toNat_natCast, ty3, ty22, ty98, wrap_i64, if_pos, f2, f4, f7, f84, g0, g1, g4, hlt, hlt', k1, k2, k3, k4, aE_d]
      exact ⟨by omega, _, rfl, gl⟩
    · have hje : j = 8 := by omega
      subst hje
      have k4 := uw_length (addE v h 8)
      rw [hx] at k4
      have k5 := uw_one (addE v h 8)
      have k6 := tk hx
      have k7 := uw_strip (addE v h 8)
      have k8 : List.drop 8 cs = [] := List.drop_eq_nil_of_le (by omega)
      generalize addE v h 8 = X at *

      simp (maxSteps := 1000000) (dsimp := false) (disch := omega) only [zwp_region_f, zwp_seq, zwp_cond, zwp_exit, zwp_ret, znil_none, nilTest_t, nilOf, zops_nil, zops_none, zstep_eq, zput_some, zput_none, zcond_f, zthen_some, vop, veval, toVs, toV1, vstore, vload, vpart, vbinX, vbin, vint, BinOp.sh, strip0, strip, upd_at, St.put, V.cells, V.isVal, TD.agg, vret_r, vres, vresL, vseal, List.take_zero, List.drop_zero, List.nil_append, List.append_nil, Option.map_some, Option.bind_some, Option.some.injEq, and_self, Bool.false_eq_true, decide_false, eq_self, ↓reduceIte, Nat.reduceEqDiff, Nat.zero_add, Nat.le_refl, Int.reduceLT, exists_eq_left', Vle_self, ty3, ty98, Int.cast_ofNat_Int, f4, f7, f84, g1, g4, k4, k6, k7, k8, gl]
end Go.Proofs.Ytkcapmodgkficaa
