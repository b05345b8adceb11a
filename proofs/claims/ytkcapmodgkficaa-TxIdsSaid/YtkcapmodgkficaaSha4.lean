/- The sum: more summed, the end, twice. No law needs what a sum is: just that it is one. -/
import Derived.Test.YtkcapmodgkficaaSha3
namespace Go.Proofs.Ytkcapmodgkficaa
open Go.Vx Go.Fl
set_option maxRecDepth 100000
set_option maxHeartbeats 4000000
set_option linter.unusedSimpArgs false
set_option linter.unusedVariables false

def hsE (h : List Int) (all : List UInt8) : Nat → List Int
  | 0 => h
  | j + 1 => blockE (hsE h all j) ((all.drop (64 * j)).take 64)
theorem hsE_length {h : List Int} (hh : h.length = 8) (all : List UInt8) : ∀ j, (hsE h all j).length = 8
  | 0 => hh
  | j + 1 => blockE_length (hsE_length hh all j) _
theorem shaEight {v : List Int} (h : v.length = 8) : ∃ c0 c1 c2 c3 c4 c5 c6 c7, v = [c0, c1, c2, c3, c4, c5, c6, c7] := by
  match v, h with
  | [c0, c1, c2, c3, c4, c5, c6, c7], _ => exact ⟨_, _, _, _, _, _, _, _, rfl⟩
theorem write_ok (h : List Int) (rest b : List UInt8) (n : Nat) (hh : h.length = 8) (hl : rest.length = n % 64) (hb : b.length ≤ 50000000) (hn : n ≤ 4000000000000000000) :
    VPure Try.prog 50 [stv h rest n, .sl 1 (bv b) .no] (stv (hsE h (rest ++ b) ((rest ++ b).length / 64)) ((rest ++ b).drop (64 * ((rest ++ b).length / 64))) (n + b.length)) := by
  have S := shaSane_ok h rest n hh hl
  have hlr : rest.length < 64 := by omega
  have C := bclone_ok rest 1 (.inl rfl) (by omega)
  have hH := hsE_length hh (rest ++ b)
  have hAl : (rest ++ b).length = rest.length + b.length := by simp
  have hA0 : hsE h (rest ++ b) 0 = h := rfl
  have e1 : IntKind.u64.wrap ((b.length : Nat) : Int) = ((b.length : Nat) : Int) := wrap_u64 (by omega) (by omega)
  have e2 : IntKind.u64.wrap ((n : Int) + (b.length : Int)) = ((n + b.length : Nat) : Int) := by rw [wrap_u64 (by omega) (by omega)]; omega
  have e3 : (rest.length + b.length) * 8 ≤ 140737488355328 := by omega
  have hR : ∀ X : List Int, X.length = 8 → ∀ R : List UInt8, Vle (.agg (uw X ++ [.sl 1 (bv R) .no, .i .u64 ((n + b.length : Nat) : Int)])) (stv X R (n + b.length)) := fun X _ R => .refl _
  match h, hh with
  | [a0, a1, a2, a3, a4, a5, a6, a7], hh =>
  refine pure_of_body (tyOf_ok _) mixed Try.func50 rfl rfl (fun d => if d = 19 then 1 else 0) (by kernel_rfl) (zin ?_)
  dsimp only [Try.f50]

  simp (maxSteps := 1000000) (dsimp := false) (disch := omega) only [zwp_region_f, zwp_seq, znil_none, nilTest_t, nilOf, zops_nil, zops_none, zstep_eq, zput_some, zthen_some, zfn_fn, vop, veval, valloc, vbox, vload, vpart, strip1, stripL, strip0, upd_at, initFr_at, St.new, hintOf, V.cells, V.isVal, TD.agg, varg1, varg, vargs, List.map_cons, List.map_nil, List.getElem?_cons_zero, List.take_succ_cons, List.take_nil, List.drop_zero, List.nil_append, List.cons_append, List.append_nil, List.length_cons, List.length_nil, Option.map_some, Option.getD_some, Bool.or_false, eq_self, reduceCtorEq, ↓reduceIte, Nat.reduceEqDiff, Nat.reduceAdd, Nat.zero_add, Nat.le_refl, ty100, stv, uw]
  refine zcall_pure (S) (by first | exact fun h => Bool.noConfusion h | exact fun _ => rfl | exact fun _ => free_bv _ _ _) ?_
  simp (maxSteps := 1000000) (dsimp := false) (disch := omega) only [zwp_skip, zwp_region_f, zwp_seq, zwp_cond, znil_none, nilTest_t, nilOf, zops_nil, zops_none, zstep_eq, zput_some, zput_none, zcond_f, zthen_some, zfn_fn, vop, veval, vstore, vload, vpart, vbuiltin, vlen, vbinX, vbin, vint, BinOp.sh, vun, vconv, vfaddr, strip1, strip0, upd_at, initFr_at, St.put, vrecv, hintOf, V.cells, V.isVal, TD.agg, varg1, varg, vargs, List.map_cons, List.map_nil, List.getElem?_cons_zero, List.getElem?_cons_succ, List.take_succ_cons, List.take_zero, List.drop_succ_cons, List.drop_nil, List.nil_append, List.cons_append, List.append_nil, List.length_cons, List.length_nil, Option.map_some, Option.getD_some, and_self, Bool.false_eq_true, Bool.not_true, Bool.or_false, eq_self, reduceCtorEq, ↓reduceIte, Nat.reduceEqDiff, Nat.reduceAdd, Nat.zero_add, Nat.le_refl, ty3, ty27, ty48, ty100, bv_length, bv_length, e1, e2]
  refine zcall_pure (C) (by first | exact fun h => Bool.noConfusion h | exact fun _ => rfl | exact fun _ => free_bv _ _ _) ?_
  simp (maxSteps := 1000000) (dsimp := false) (disch := omega) only [zwp_seq, zwp_block, znil_none, nilTest_t, nilOf, zops_nil, zops_none, zstep_eq, zput_some, zthen_some, vop, veval, vbuiltin, vapp, vsrc, vgrow, upd_at, initFr_at, St.tok, vrecv, List.map_cons, List.map_nil, List.getElem?_cons_zero, List.getElem?_cons_succ, Option.getD_some, Option.any_some, true_and, true_or, and_self, Bool.false_eq_true, Bool.and_false, decide_false, eq_self, reduceCtorEq, ↓reduceIte, Nat.reduceLT, Nat.reduceEqDiff, Nat.reduceAdd, Nat.reduceBEq, Nat.mul_one, ty5, ty27, bv_length, if_pos, bv_length]
  have happ : bv rest ++ bv b = bv (rest ++ b) := by simp [bv]
  rw [happ]
  generalize rest ++ b = A at *
  obtain ⟨Q, hQ⟩ : ∃ Q, Q = A.length / 64 := ⟨_, rfl⟩
  have hQ1 : 64 * Q ≤ A.length := by omega
  have hQ2 : A.length < 64 * Q + 64 := by omega
  rw [← hQ]
  clear hQ S C e1 e2 e3 hAl happ
  obtain ⟨N, hN⟩ : ∃ N, N = n + b.length := ⟨_, rfl⟩
  rw [← hN]
  clear hn hb hl hlr
  refine zloop Q (fun j fr σ => fr 2 = .ptr 0 0 ∧ fr 4 = .ptr 1 0 ∧ ((j = 0 ∧ fr 5 = .sl 1 (bv A) (.tok 3)) ∨ (0 < j ∧ fr 5 = .sl 1 (bv (A.drop (64 * j))) .no)) ∧ σ.h 0 = some (.cells (uw (hsE [a0, a1, a2, a3, a4, a5, a6, a7] A j) ++ [.sl 1 (bv rest) .no, .i .u64 (N : Int)])) ∧ ∃ ys, σ.h 1 = some (.cells ys) ∧ ys.length = 10) ⟨rfl, rfl, .inl ⟨rfl, rfl⟩, rfl, _, rfl, rfl⟩ ?_
  rintro j fr ⟨s, m⟩ hj ⟨f2, f4, f5, g0, ys, g1, gl⟩
  simp only at g0 g1
  have hv := hH j
  have hd : j = 0 → A = A.drop (64 * j) := fun h => by rw [h]; rfl
  have y10 : List.drop 10 ys = [] := List.drop_eq_nil_of_le (by omega)
  have hf5 : ∃ g, (g = .tok 3 ∨ g = .no) ∧ fr 5 = .sl 1 (bv (A.drop (64 * j))) g := by
    rcases f5 with ⟨h1, h2⟩ | ⟨h1, h2⟩
    · exact ⟨_, .inl rfl, by rw [h2, ← hd h1]⟩
    · exact ⟨_, .inr rfl, h2⟩
  clear f5 hd
  by_cases hlt : j < Q
  · rw [show hsE [a0, a1, a2, a3, a4, a5, a6, a7] A (j + 1) = blockE (hsE [a0, a1, a2, a3, a4, a5, a6, a7] A j) ((A.drop (64 * j)).take 64) from rfl]
    generalize hsE [a0, a1, a2, a3, a4, a5, a6, a7] A j = v at *
    have hdk : List.drop 64 (bv (A.drop (64 * j))) = bv (A.drop (64 * (j + 1))) := by
      rw [show 64 * (j + 1) = 64 * j + 64 by omega, ← List.drop_drop]; simp [bv]
    have hle : 64 ≤ (A.drop (64 * j)).length := by simp; omega
    have hll : (A.drop (64 * j)).length - 64 = (A.drop (64 * (j + 1))).length := by simp; omega
    generalize A.drop (64 * j) = D at *
    generalize A.drop (64 * (j + 1)) = E at *
    clear hQ1 hQ2 hH hA0 hR hj
    have hlt' : (64 : Int) ≤ (D.length : Int) := by omega
    have hB := block_ok v hv (D.take 64) (by simp; omega)
    have hbl := blockE_length hv (D.take 64)
    have htk : List.take 64 (bv D) = bv (D.take 64) := by simp [bv]
    have hel : List.take E.length (bv E) = bv E := List.take_of_length_le (by simp)
    have hst := uw_strip (blockE v (D.take 64))
    have hul := uw_length (blockE v (D.take 64))
    rw [hbl] at hul
    have hon := uw_one (blockE v (D.take 64))
    generalize blockE v (D.take 64) = X at *
    generalize D.take 64 = DT at *
    obtain ⟨c0, c1, c2, c3, c4, c5, c6, c7, rfl⟩ := shaEight hv
    clear hv
    have g0' : s 0 = some (.cells [.i .u32 c0, .i .u32 c1, .i .u32 c2, .i .u32 c3, .i .u32 c4, .i .u32 c5, .i .u32 c6, .i .u32 c7, .sl 1 (bv rest) .no, .i .u64 (N : Int)]) := g0
    obtain ⟨g, hg, f5⟩ := hf5
    rcases hg with rfl | rfl
    · skip
      simp (maxSteps := 1000000) (dsimp := false) (disch := omega) only [zwp_skip, zwp_region_f, zwp_region_t, zwp_seq, zwp_cond, zwp_block, znil_none, nilTest_f, nilTest_t, nilOf, zops_nil, zops_none, zstep_eq, zput_some, zcond_t, zthen_some, zfn_fn, vop, veval, toVs, toV1, vload, vpart, vbuiltin, vlen, vbinX, vbin, vint, BinOp.sh, vslice, vbnd, vfaddr, strip1, stripL, strip0, upd_at, hintOf, TD.agg, varg1, varg, vargs, List.map_cons, List.map_nil, List.getElem?_cons_zero, List.take_succ_cons, List.take_zero, List.drop_zero, List.append_nil, List.length_cons, List.length_nil, Option.map_some, Option.map_none, Option.isSome_some, Option.isSome_none, and_false, false_and, true_or, and_self, or_self, Bool.false_eq_true, Bool.or_false, decide_true, ite_self, false_implies, eq_self, reduceCtorEq, ↓reduceIte, Nat.reduceLeDiff, Nat.reduceEqDiff, Nat.reduceAdd, Nat.zero_add, Nat.add_zero, Nat.sub_zero, Nat.zero_le, Nat.le_refl, Int.reduceLT, Int.reduceToNat, ty3, ty5, ty27, ty98, ty100, bv_length, ge_iff_le, bv_length, f2, f5, g0', hlt', hle, htk]
      refine zcall_pure (hB) (by first | exact fun h => Bool.noConfusion h | exact fun _ => rfl | exact fun _ => free_bv _ _ _) ?_
      simp (maxSteps := 1000000) (dsimp := false) (disch := omega) only [zlate_0, zwp_region_f, znil_none, nilTest_f, nilTest_t, nilOf, zops_nil, zops_none, zstep_eq, zput_some, zput_none, zthen_some, vop, veval, toVs, toV1, vstore, vslice, vbnd, vfaddr, upd_at, St.put, vrecv, V.cells, V.isVal, List.getElem?_cons_zero, List.take_zero, List.drop_succ_cons, List.drop_zero, List.nil_append, List.length_cons, List.length_nil, Option.map_some, Option.map_none, Option.isSome_none, Option.some.injEq, and_true, true_and, and_false, false_and, true_or, false_or, and_self, or_self, Bool.false_eq_true, ite_self, false_implies, eq_self, reduceCtorEq, ↓reduceIte, Nat.reduceLeDiff, Nat.reduceEqDiff, Nat.reduceAdd, Nat.zero_add, Nat.add_zero, Nat.le_refl, Int.reduceLT, Int.reduceToNat, Nat.add_eq_zero_iff, ty5, ty27, ty98, ty100, bv_length, bv_length, f2, f4, f5, g0', g1, hle, hdk, hul, hll, hel]
      exact ⟨hlt, by omega, _, rfl, gl⟩
    · skip
      simp (maxSteps := 1000000) (dsimp := false) (disch := omega) only [zwp_skip, zwp_region_f, zwp_region_t, zwp_seq, zwp_cond, zwp_block, znil_none, nilTest_f, nilTest_t, nilOf, zops_nil, zops_none, zstep_eq, zput_some, zcond_t, zthen_some, zfn_fn, vop, veval, toVs, toV1, vload, vpart, vbuiltin, vlen, vbinX, vbin, vint, BinOp.sh, vslice, vbnd, vfaddr, strip1, stripL, strip0, upd_at, hintOf, TD.agg, varg1, varg, vargs, List.map_cons, List.map_nil, List.getElem?_cons_zero, List.take_succ_cons, List.take_zero, List.drop_zero, List.append_nil, List.length_cons, List.length_nil, Option.map_some, Option.map_none, Option.isSome_some, Option.isSome_none, and_false, false_and, true_or, and_self, or_self, Bool.false_eq_true, Bool.or_false, decide_true, ite_self, false_implies, eq_self, reduceCtorEq, ↓reduceIte, Nat.reduceLeDiff, Nat.reduceEqDiff, Nat.reduceAdd, Nat.zero_add, Nat.add_zero, Nat.sub_zero, Nat.zero_le, Nat.le_refl, Int.reduceLT, Int.reduceToNat, ty3, ty5, ty27, ty98, ty100, bv_length, ge_iff_le, bv_length, f2, f5, g0', hlt', hle, htk]
      refine zcall_pure (hB) (by first | exact fun h => Bool.noConfusion h | exact fun _ => rfl | exact fun _ => free_bv _ _ _) ?_
      simp (maxSteps := 1000000) (dsimp := false) (disch := omega) only [zlate_0, zwp_region_f, znil_none, nilTest_f, nilTest_t, nilOf, zops_nil, zops_none, zstep_eq, zput_some, zput_none, zthen_some, vop, veval, toVs, toV1, vstore, vslice, vbnd, vfaddr, upd_at, St.put, vrecv, V.cells, V.isVal, List.getElem?_cons_zero, List.take_zero, List.drop_succ_cons, List.drop_zero, List.nil_append, List.length_cons, List.length_nil, Option.map_some, Option.map_none, Option.isSome_none, Option.some.injEq, and_true, true_and, and_false, false_and, true_or, false_or, and_self, or_self, Bool.false_eq_true, ite_self, false_implies, eq_self, reduceCtorEq, ↓reduceIte, Nat.reduceLeDiff, Nat.reduceEqDiff, Nat.reduceAdd, Nat.zero_add, Nat.add_zero, Nat.le_refl, Int.reduceLT, Int.reduceToNat, Nat.add_eq_zero_iff, ty5, ty27, ty98, ty100, bv_length, bv_length, f2, f4, f5, g0', g1, hle, hdk, hul, hll, hel]
      exact ⟨hlt, by omega, _, rfl, gl⟩
  · have hje : j = Q := by omega
    rw [hje] at g0 hf5 hv
    have hlt' : ¬ (64 : Int) ≤ ((A.drop (64 * Q)).length : Int) := by simp; omega
    generalize hsE [a0, a1, a2, a3, a4, a5, a6, a7] A Q = v at *
    generalize A.drop (64 * Q) = D at *
    clear hQ1 hQ2 hH hA0 hR hj hje hlt
    obtain ⟨c0, c1, c2, c3, c4, c5, c6, c7, rfl⟩ := shaEight hv
    clear hv
    have g0' : s 0 = some (.cells [.i .u32 c0, .i .u32 c1, .i .u32 c2, .i .u32 c3, .i .u32 c4, .i .u32 c5, .i .u32 c6, .i .u32 c7, .sl 1 (bv rest) .no, .i .u64 (N : Int)]) := g0
    obtain ⟨g, hg, f5⟩ := hf5
    rcases hg with rfl | rfl
    · skip
      simp (maxSteps := 1000000) (dsimp := false) (disch := omega) only [zwp_region_f, zwp_seq, zwp_cond, zwp_exit, zwp_ret, znil_none, nilTest_t, nilOf, zops_nil, zops_none, zstep_eq, zput_some, zput_none, zcond_f, zthen_some, vop, veval, toVs, toV1, vstore, vload, vpart, vbuiltin, vlen, vbinX, vbin, vint, BinOp.sh, vfaddr, strip1, stripL, strip0, strip, upd_at, St.put, V.cells, V.isVal, TD.agg, vret_r, vres, vresL, vseal, List.map_cons, List.map_nil, List.getElem?_cons_zero, List.getElem?_cons_succ, List.take_succ_cons, List.take_zero, List.take_nil, List.drop_succ_cons, List.drop_zero, List.nil_append, List.cons_append, List.append_nil, List.length_cons, List.length_nil, Option.map_some, Option.bind_some, Option.some.injEq, and_self, Bool.false_eq_true, decide_false, eq_self, reduceCtorEq, ↓reduceIte, Nat.reduceLeDiff, Nat.reduceEqDiff, Nat.reduceAdd, Nat.zero_add, Nat.le_refl, exists_eq_left', ty3, ty27, ty100, bv_length, ge_iff_le, bv_length, f2, f4, f5, g0', g1, hlt', y10, gl]
      exact .refl _
    · skip
      simp (maxSteps := 1000000) (dsimp := false) (disch := omega) only [zwp_region_f, zwp_seq, zwp_cond, zwp_exit, zwp_ret, znil_none, nilTest_t, nilOf, zops_nil, zops_none, zstep_eq, zput_some, zput_none, zcond_f, zthen_some, vop, veval, toVs, toV1, vstore, vload, vpart, vbuiltin, vlen, vbinX, vbin, vint, BinOp.sh, vfaddr, strip1, stripL, strip0, strip, upd_at, St.put, V.cells, V.isVal, TD.agg, vret_r, vres, vresL, vseal, List.map_cons, List.map_nil, List.getElem?_cons_zero, List.getElem?_cons_succ, List.take_succ_cons, List.take_zero, List.take_nil, List.drop_succ_cons, List.drop_zero, List.nil_append, List.cons_append, List.append_nil, List.length_cons, List.length_nil, Option.map_some, Option.bind_some, Option.some.injEq, and_self, Bool.false_eq_true, decide_false, eq_self, reduceCtorEq, ↓reduceIte, Nat.reduceLeDiff, Nat.reduceEqDiff, Nat.reduceAdd, Nat.zero_add, Nat.le_refl, exists_eq_left', ty3, ty27, ty100, bv_length, ge_iff_le, bv_length, f2, f4, f5, g0', g1, hlt', y10, gl]
      exact .refl _

theorem strB (l : List UInt8) : stripL (bv l) = some (bv l) := by
  induction l with
  | nil => rfl
  | cons x l ih =>
    show (match strip1 (.i .u8 (x.toNat : Int)), stripL (bv l) with | some u, some us => some (u :: us) | _, _ => none) = _
    rw [ih]; rfl
/-- The sum's bytes. -/
def endI (H : List Int) (i : Nat) : UInt8 := b8 (rE (H.getD (i / 4) 0) ((3 - (i : Int) % 4) * 8).toNat)
def endE (H : List Int) : Nat → List UInt8
  | 0 => List.replicate 32 0
  | i + 1 => (endE H i).set i (endI H i)
theorem endE_length (H : List Int) : ∀ i, (endE H i).length = 32
  | 0 => List.length_replicate
  | i + 1 => by rw [endE, List.length_set, endE_length H i]
theorem bv_set {l : List UInt8} {i : Nat} (h : i < l.length) (y : UInt8) : List.take i (bv l) ++ V.i .u8 (y.toNat : Int) :: List.drop (i + 1) (bv l) = bv (l.set i y) := by
  rw [List.set_eq_take_append_cons_drop, if_pos h]
  simp [bv]
def finE (h : List Int) (rest : List UInt8) (n : Nat) : List UInt8 :=
  endE (hsE h (rest ++ padJ n 8) ((rest ++ padJ n 8).length / 64)) 32
theorem finE_length (h : List Int) (rest : List UInt8) (n : Nat) : (finE h rest n).length = 32 := endE_length _ _
theorem end_ok (h : List Int) (rest : List UInt8) (n : Nat) (hh : h.length = 8) (hl : rest.length = n % 64) (hn : n ≤ 4000000000000000000) :
    VPure Try.prog 49 [stv h rest n] (.agg (bv (finE h rest n))) := by
  have S := shaSane_ok h rest n hh hl
  have P := pad_ok n (by omega)
  have hz : padZ n ≤ 63 := by unfold padZ; omega
  have hpl := padJ_length n 8
  have W := write_ok h rest (padJ n 8) n hh hl (by omega) hn
  rw [show finE h rest n = endE (hsE h (rest ++ padJ n 8) ((rest ++ padJ n 8).length / 64)) 32 from rfl]
  have hv := hsE_length hh (rest ++ padJ n 8) ((rest ++ padJ n 8).length / 64)
  generalize hsE h (rest ++ padJ n 8) ((rest ++ padJ n 8).length / 64) = v at *
  generalize (rest ++ padJ n 8).drop (64 * ((rest ++ padJ n 8).length / 64)) = R at *
  generalize n + (padJ n 8).length = N at *
  generalize padJ n 8 = B at *
  clear hl hn hz hpl
  obtain ⟨a0, a1, a2, a3, a4, a5, a6, a7, rfl⟩ := shaEight hh
  obtain ⟨c0, c1, c2, c3, c4, c5, c6, c7, rfl⟩ := shaEight hv
  refine pure_of_body (tyOf_ok _) mixed Try.func49 rfl rfl (fun _ => 0) (by kernel_rfl) (zin ?_)
  dsimp only [Try.f49]

  simp (maxSteps := 1000000) (dsimp := false) (disch := omega) only [zwp_region_f, zwp_seq, znil_none, nilTest_t, nilOf, zops_nil, zops_none, zstep_eq, zput_some, zthen_some, zfn_fn, vop, veval, valloc, vbox, vload, vpart, strip1, stripL, strip0, upd_at, initFr_at, St.new, hintOf, V.cells, V.isVal, TD.agg, varg1, varg, vargs, List.map_cons, List.map_nil, List.getElem?_cons_zero, List.take_succ_cons, List.take_nil, List.drop_zero, List.nil_append, List.cons_append, List.append_nil, List.length_cons, List.length_nil, Option.map_some, Option.getD_some, Bool.or_false, eq_self, reduceCtorEq, ↓reduceIte, Nat.reduceEqDiff, Nat.reduceAdd, Nat.zero_add, Nat.le_refl, ty52, ty100, stv, uw]
  refine zcall_pure (S) (by first | exact fun h => Bool.noConfusion h | exact fun _ => rfl | exact fun _ => free_bv _ _ _) ?_
  simp (maxSteps := 1000000) (dsimp := false) (disch := omega) only [zwp_skip, zwp_region_t, zwp_seq, zwp_cond, znil_none, nilTest_f, nilTest_t, nilOf, zops_nil, zops_none, zstep_eq, zput_some, zcond_f, zthen_some, zfn_fn, vop, veval, vload, vpart, vun, vfaddr, strip1, strip0, upd_at, vrecv, hintOf, TD.agg, varg1, varg, vargs, List.map_cons, List.map_nil, List.getElem?_cons_zero, List.getElem?_cons_succ, List.take_succ_cons, List.take_nil, List.drop_zero, List.append_nil, List.length_cons, List.length_nil, Option.map_some, Bool.false_eq_true, Bool.not_true, Bool.or_false, eq_self, reduceCtorEq, ↓reduceIte, Nat.reduceEqDiff, Nat.reduceAdd, Nat.zero_add, Nat.le_refl, ty48, ty100]
  refine zcall_pure (P) (by first | exact fun h => Bool.noConfusion h | exact fun _ => rfl | exact fun _ => free_bv _ _ _) ?_
  simp (maxSteps := 1000000) (dsimp := false) (disch := omega) only [znil_none, nilTest_f, zops_none, zstep_eq, zput_some, zfn_fn, veval, strip1, stripL, strip0, upd_at, vrecv, hintOf, varg1, varg, vargs, List.map_cons, List.map_nil, List.append_nil, Option.map_some, Bool.or_false, eq_self, ↓reduceIte, Nat.reduceEqDiff]
  refine zcall_pure (W) (by first | exact fun h => Bool.noConfusion h | exact fun _ => rfl | exact fun _ => free_bv _ _ _) ?_
  simp (maxSteps := 1000000) (dsimp := false) (disch := omega) only [zlate_0, zwp_region_f, zwp_seq, zwp_block, znil_none, nilTest_f, nilTest_t, nilOf, zops_nil, zops_none, zstep_eq, zput_some, zput_none, zthen_some, vop, veval, toVs, toV1, valloc, vstore, upd_at, St.new, St.put, vrecv, V.cells, V.isVal, List.map_cons, List.map_nil, List.take_zero, List.drop_succ_cons, List.drop_nil, List.nil_append, List.cons_append, List.append_nil, List.length_cons, List.length_nil, Option.map_some, and_self, eq_self, reduceCtorEq, ↓reduceIte, Nat.reduceEqDiff, Nat.reduceAdd, Nat.zero_add, Nat.le_refl, ty52, ty100, stv, uw]
  obtain ⟨CS, hCS⟩ : ∃ CS, CS = [V.i .u32 c0, V.i .u32 c1, V.i .u32 c2, V.i .u32 c3, V.i .u32 c4, V.i .u32 c5, V.i .u32 c6, V.i .u32 c7, V.sl 1 (bv R) .no, V.i .u64 (N : Int)] := ⟨_, rfl⟩
  have hcl : CS.length = 10 := by rw [hCS]; rfl
  have hcg : ∀ k, k < 8 → CS[k]? = some (.i .u32 ([c0, c1, c2, c3, c4, c5, c6, c7].getD k 0)) := fun k hk => by
    rw [hCS]
    match k, hk with
    | 0, _ | 1, _ | 2, _ | 3, _ | 4, _ | 5, _ | 6, _ | 7, _ => rfl
    | k + 8, h => omega
  refine zloop 32 (fun i fr σ => fr 1 = .ptr 0 0 ∧ fr 2 = .ptr 1 0 ∧ fr 3 = .ptr 2 0 ∧ fr 14 = .i .i64 (i : Int) ∧ σ.h 0 = some (.cells CS) ∧ (∃ ys, σ.h 1 = some (.cells ys) ∧ ys.length = 32) ∧ σ.h 2 = some (.cells (bv (endE [c0, c1, c2, c3, c4, c5, c6, c7] i)))) ⟨rfl, rfl, rfl, rfl, by rw [hCS]; rfl, ⟨_, rfl, rfl⟩, rfl⟩ ?_
  clear W S P hCS hh hv
  generalize [c0, c1, c2, c3, c4, c5, c6, c7] = v at *
  rintro i fr ⟨s, m⟩ hi ⟨f1, f2, f3, f14, g0, ⟨ys, g1, gl⟩, g2⟩
  simp only at g0 g1 g2
  have hel := endE_length v i
  have y32 : List.drop 32 ys = [] := List.drop_eq_nil_of_le (by omega)
  by_cases hlt : i < 32
  · have hlt' : (i : Int) < 32 := by omega
    have e1 : (i : Int) / 4 = ((i / 4 : Nat) : Int) := by omega
    have e2 : ((3 - (i : Int) % 4) * 8 < 0) = False := eq_false (by omega)
    have e3 := b8_eq (rE (v.getD (i / 4) 0) ((3 - (i : Int) % 4) * 8).toNat)
    rw [show b8 (rE (v.getD (i / 4) 0) ((3 - (i : Int) % 4) * 8).toNat) = endI v i from rfl] at e3
    have e4 : i / 4 < 8 := by omega
    have hg := hcg (i / 4) e4
    rw [show endE v (i + 1) = (endE v i).set i (endI v i) from rfl]
    have hset := bv_set (l := endE v i) (i := i) (by omega) (endI v i)
    generalize endE v i = O at *
    generalize endI v i = o at *

    simp (maxSteps := 1000000) (dsimp := false) (disch := omega) only [zwp_skip, zwp_region_f, zwp_seq, zwp_cond, zwp_block, znil_none, nilTest_t, nilOf, zops_nil, zops_none, zstep_eq, zput_some, zput_none, zcond_t, zthen_some, int_lt0, vop, veval, toVs, toV1, vstore, vload, vpart, vbinX, vbin, vint, vshift, BinOp.sh, vconv, vfaddr, viaddr, upd_at, St.put, V.cells, V.isVal, TD.agg, List.getElem?_cons_zero, List.nil_append, List.cons_append, List.length_cons, List.length_nil, List.append_assoc, Option.map_some, Option.some.injEq, V.i.injEq, and_true, true_and, Bool.false_eq_true, decide_true, eq_self, reduceCtorEq, ↓reduceIte, Nat.reduceLeDiff, Nat.reduceEqDiff, Nat.zero_add, Nat.add_zero, Nat.mul_one, Int.toNat_natCast, Int.reduceEq, ty3, ty5, ty22, ty52, ty81, ty98, ty100, bv_length, wrap_i64, wrap_u64, rem_pos, quo_pos, if_pos, bv_length, f1, f2, f3, f14, g0, g1, g2, hlt, hlt', e1, e2, e3, e4, hg, hset, hel, quo_pos, rE_d]
    exact ⟨by omega, _, rfl, gl⟩
  · have hie : i = 32 := by omega
    subst hie
    have ht : List.take 32 (bv (endE v 32)) = bv (endE v 32) := List.take_of_length_le (by simp; omega)
    have ho : (bv (endE v 32)).all V.one = true := bv_all _
    generalize endE v 32 = O at *

    simp (maxSteps := 1000000) (dsimp := false) (disch := omega) only [zwp_region_f, zwp_seq, zwp_cond, zwp_exit, zwp_ret, znil_none, nilTest_t, nilOf, zops_nil, zops_none, zstep_eq, zput_some, zput_none, zcond_f, zthen_some, vop, veval, toVs, toV1, vstore, vload, vpart, vbinX, vbin, vint, BinOp.sh, strip0, strip, upd_at, St.put, V.cells, V.isVal, TD.agg, vret_r, vres, vresL, vseal, List.take_zero, List.drop_zero, List.nil_append, List.append_nil, Option.map_some, Option.bind_some, Option.some.injEq, and_self, Bool.false_eq_true, decide_false, eq_self, ↓reduceIte, Nat.reduceEqDiff, Nat.zero_add, Nat.le_refl, Int.reduceLT, exists_eq_left', Vle_self, ty3, ty52, Int.cast_ofNat_Int, bv_length, bv_length, f2, f3, f14, g1, g2, hel, ht, y32, gl, strB]

def sumE (b : List UInt8) : List UInt8 := finE (hsE h0E b (b.length / 64)) (b.drop (64 * (b.length / 64))) b.length
theorem sumE_length (b : List UInt8) : (sumE b).length = 32 := finE_length _ _ _
theorem sum_ok (b : List UInt8) (hb : b.length ≤ 50000000) : VPure Try.prog 37 [.sl 1 (bv b) .no] (.agg (bv (sumE b))) := by
  have W := write_ok h0E [] b 0 rfl rfl hb (by omega)
  simp only [List.nil_append, Nat.zero_add] at W
  have hv := hsE_length (h := h0E) rfl b (b.length / 64)
  have E := end_ok (hsE h0E b (b.length / 64)) (b.drop (64 * (b.length / 64))) b.length hv (by simp; omega) (by omega)
  rw [show finE (hsE h0E b (b.length / 64)) (b.drop (64 * (b.length / 64))) b.length = sumE b from rfl] at E
  have hl := sumE_length b
  generalize sumE b = O at *
  generalize hsE h0E b (b.length / 64) = v at *
  generalize b.drop (64 * (b.length / 64)) = R at *
  obtain ⟨c0, c1, c2, c3, c4, c5, c6, c7, rfl⟩ := shaEight hv
  have ht : List.take 32 (bv O) = bv O := List.take_of_length_le (by simp; omega)
  have ho : (bv O).all V.one = true := bv_all _
  have hd : List.drop 32 (List.replicate 32 (V.i .u8 0)) = [] := rfl
  refine pure_of_body (tyOf_ok _) mixed Try.func37 rfl rfl (fun _ => 0) (by kernel_rfl) (zin ?_)
  dsimp only [Try.f37]

  simp (maxSteps := 1000000) (dsimp := false) (disch := omega) only [zwp_region_f, zwp_seq, znil_none, nilTest_t, nilOf, zops_nil, zops_none, zstep_eq, zput_some, zthen_some, zfn_fn, vop, veval, valloc, St.new, hintOf, vargs, List.map_nil, List.append_nil, Nat.zero_add, ty52]
  refine zcall_pure (start_ok) (by first | exact fun h => Bool.noConfusion h | exact fun _ => rfl | exact fun _ => free_bv _ _ _) ?_
  simp (maxSteps := 1000000) (dsimp := false) (disch := omega) only [znil_none, nilTest_t, nilOf, zops_none, zstep_eq, zput_some, zthen_some, zfn_fn, vop, veval, strip1, stripL, strip0, upd_at, initFr_at, vrecv, hintOf, varg1, varg, vargs, List.map_cons, List.map_nil, List.getElem?_cons_zero, List.nil_append, List.cons_append, List.append_nil, Option.map_some, Option.getD_some, Bool.or_false, eq_self, reduceCtorEq, ↓reduceIte, Nat.reduceEqDiff, uw, h0E]
  refine zcall_pure (W) (by first | exact fun h => Bool.noConfusion h | exact fun _ => rfl | exact fun _ => free_bv _ _ _) ?_
  simp (maxSteps := 1000000) (dsimp := false) (disch := omega) only [znil_none, nilTest_t, nilOf, zops_none, zstep_eq, zput_some, zfn_fn, veval, strip1, stripL, strip0, upd_at, vrecv, hintOf, varg1, varg, vargs, List.map_cons, List.map_nil, List.nil_append, List.cons_append, List.append_nil, Option.map_some, Bool.or_false, eq_self, ↓reduceIte, uw, stv]
  refine zcall_pure (E) (by first | exact fun h => Bool.noConfusion h | exact fun _ => rfl | exact fun _ => free_bv _ _ _) ?_
  simp (maxSteps := 1000000) (dsimp := false) (disch := omega) only [zwp_ret, znil_none, nilTest_t, nilOf, zops_nil, zops_none, zstep_eq, zput_some, zput_none, zthen_some, vop, veval, vstore, vload, vpart, strip0, strip, upd_at, St.put, vrecv, V.cells, V.isVal, TD.agg, vret_r, vres, vresL, vseal, List.take_zero, List.drop_zero, List.nil_append, List.append_nil, List.length_replicate, Option.map_some, Option.bind_some, Option.some.injEq, and_self, eq_self, ↓reduceIte, Nat.reduceEqDiff, Nat.zero_add, Nat.le_refl, exists_eq_left', Vle_self, ty52, bv_length, bv_length, hl, ht, hd, strB]
def dblE (b : List UInt8) : List UInt8 := sumE (sumE b)
theorem dblE_length (b : List UInt8) : (dblE b).length = 32 := sumE_length _
theorem flatB (l : List UInt8) : flatL (bv l) = true := by
  induction l with
  | nil => rfl
  | cons a l ih => simpa [bv, flatL, flat1] using ih
theorem free_bva (l : List UInt8) : (V.agg (bv l)).free = true := flatB l
theorem double_ok (b : List UInt8) (hb : b.length ≤ 50000000) : VPure Try.prog 17 [.sl 1 (bv b) .no] (.agg (bv (dblE b))) := by
  have S1 := sum_ok b hb
  have S2 := sum_ok (sumE b) (by rw [sumE_length]; omega)
  rw [show dblE b = sumE (sumE b) from rfl]
  have h1 := sumE_length b
  have h2 := sumE_length (sumE b)
  generalize sumE (sumE b) = O at *
  generalize sumE b = Q at *
  have ht : List.take 32 (bv O) = bv O := List.take_of_length_le (by simp; omega)
  have ho : (bv O).all V.one = true := bv_all _
  have ht' : List.take 32 (bv Q) = bv Q := List.take_of_length_le (by simp; omega)
  have ho' : (bv Q).all V.one = true := bv_all _
  have hd : List.drop 32 (List.replicate 32 (V.i .u8 0)) = [] := rfl
  have hmax : 32 ≤ maxLen := by unfold maxLen; omega
  refine pure_of_body (tyOf_ok _) mixed Try.func17 rfl rfl (fun _ => 0) (by kernel_rfl) (zin ?_)
  dsimp only [Try.f17]

  simp (maxSteps := 1000000) (dsimp := false) (disch := omega) only [zwp_region_f, zwp_seq, znil_none, nilTest_t, nilOf, zops_nil, zops_none, zstep_eq, zput_some, zthen_some, zfn_fn, vop, veval, valloc, strip1, strip0, upd_at, initFr_at, St.new, hintOf, varg1, varg, vargs, List.map_cons, List.map_nil, List.getElem?_cons_zero, List.append_nil, Option.map_some, Option.getD_some, Bool.or_false, eq_self, reduceCtorEq, ↓reduceIte, Nat.zero_add, ty52]
  refine zcall_pure (S1) (by first | exact fun h => Bool.noConfusion h | exact fun _ => rfl | exact fun _ => free_bv _ _ _) ?_
  simp (maxSteps := 1000000) (dsimp := false) (disch := omega) only [zwp_region_f, zwp_seq, znil_none, nilTest_t, nilOf, zops_nil, zops_none, zstep_eq, zput_some, zput_none, zthen_some, zfn_fn, vop, veval, valloc, vstore, vslice, vbnd, upd_at, St.new, St.put, vrecv, hintOf, V.cells, V.isVal, varg1, varg, vargs, List.map_cons, List.map_nil, List.take_zero, List.drop_zero, List.nil_append, List.append_nil, List.length_replicate, Option.map_some, Option.map_none, Option.isSome_none, and_self, or_self, Bool.false_eq_true, Bool.or_false, false_implies, eq_self, ↓reduceIte, Nat.reduceLT, Nat.reduceEqDiff, Nat.reduceAdd, Nat.zero_add, Nat.add_zero, Nat.sub_zero, Nat.zero_le, Nat.le_refl, Nat.mul_one, ty5, ty52, bv_length, bv_length, h1, ht', hd, strB, hmax]
  refine zcall_pure S2 (fun _ => free_bva _) ?_
  simp (maxSteps := 1000000) (dsimp := false) (disch := omega) only [zwp_ret, znil_none, nilTest_t, nilOf, zops_nil, zops_none, zstep_eq, zput_some, zput_none, zthen_some, vop, veval, vstore, vload, vpart, strip0, strip, upd_at, St.put, vrecv, V.cells, V.isVal, TD.agg, vret_r, vres, vresL, vseal, List.take_zero, List.drop_zero, List.nil_append, List.append_nil, List.length_replicate, Option.map_some, Option.bind_some, Option.some.injEq, and_self, eq_self, reduceCtorEq, ↓reduceIte, Nat.reduceEqDiff, Nat.zero_add, Nat.le_refl, exists_eq_left', Vle_self, ty52, bv_length, bv_length, h2, ht, hd, strB]
end Go.Proofs.Ytkcapmodgkficaa
