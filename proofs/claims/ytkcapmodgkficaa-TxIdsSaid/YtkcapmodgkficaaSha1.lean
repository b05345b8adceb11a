/- The sum's words, on values without memory: what is turned, the schedule. No law needs what a sum is: just that it is one. -/
import Derived.Test.YtkcapmodgkficaaCmp
namespace Go.Proofs.Ytkcapmodgkficaa
open Go.Vx Go.Fl
set_option maxRecDepth 100000
set_option maxHeartbeats 4000000
set_option linter.unusedSimpArgs false
set_option linter.unusedVariables false

def uw (l : List Int) : List V := l.map fun x => .i .u32 x
theorem uw_length (l : List Int) : (uw l).length = l.length := by simp [uw]
theorem uw_one (l : List Int) : (uw l).all V.one = true := by simp [uw, V.one]
theorem uw_get {l : List Int} {i : Nat} (h : i < l.length) : (uw l)[i]? = some (.i .u32 (l.getD i 0)) := by
  simp [uw, h]
theorem uw_set {l : List Int} {i : Nat} (h : i < l.length) (y : Int) : List.take i (uw l) ++ V.i .u32 y :: List.drop (i + 1) (uw l) = uw (l.set i y) := by
  rw [List.set_eq_take_append_cons_drop, if_pos h]
  simp [uw]
theorem uw_strip (l : List Int) : stripL (uw l) = some (uw l) := by
  induction l with
  | nil => rfl
  | cons x l ih =>
    show (match strip1 (.i .u32 x), stripL (uw l) with | some u, some us => some (u :: us) | _, _ => none) = _
    rw [ih]; rfl
def xE (a b : Int) : Int := IntKind.u32.wrap ((BitVec.ofInt IntKind.u32.bits a ^^^ BitVec.ofInt IntKind.u32.bits b).toNat : Int)
def nE (a b : Int) : Int := IntKind.u32.wrap ((BitVec.ofInt IntKind.u32.bits a &&& BitVec.ofInt IntKind.u32.bits b).toNat : Int)
def oE (a b : Int) : Int := IntKind.u32.wrap ((BitVec.ofInt IntKind.u32.bits a ||| BitVec.ofInt IntKind.u32.bits b).toNat : Int)
def aE (a b : Int) : Int := IntKind.u32.wrap (a + b)
def lE (a : Int) (n : Nat) : Int := IntKind.u32.wrap (a * 2 ^ (min n IntKind.u32.bits))
def rE (a : Int) (n : Nat) : Int := a.fdiv (2 ^ (min n IntKind.u32.bits))
theorem xE_d (a b : Int) : IntKind.u32.wrap ((BitVec.ofInt IntKind.u32.bits a ^^^ BitVec.ofInt IntKind.u32.bits b).toNat : Int) = xE a b := rfl
theorem nE_d (a b : Int) : IntKind.u32.wrap ((BitVec.ofInt IntKind.u32.bits a &&& BitVec.ofInt IntKind.u32.bits b).toNat : Int) = nE a b := rfl
theorem oE_d (a b : Int) : IntKind.u32.wrap ((BitVec.ofInt IntKind.u32.bits a ||| BitVec.ofInt IntKind.u32.bits b).toNat : Int) = oE a b := rfl
theorem aE_d (a b : Int) : IntKind.u32.wrap (a + b) = aE a b := rfl
theorem lE_d (a : Int) (n : Nat) : IntKind.u32.wrap (a * 2 ^ (min n IntKind.u32.bits)) = lE a n := rfl
theorem rE_d (a : Int) (n : Nat) : a.fdiv (2 ^ (min n IntKind.u32.bits)) = rE a n := rfl
theorem and31 (a : Int) : ∃ s : Nat, s ≤ 31 ∧ (BitVec.ofInt IntKind.u64.bits a &&& BitVec.ofInt IntKind.u64.bits 31).toNat = s := ⟨_, by
  rw [BitVec.toNat_and]
  exact Nat.le_trans Nat.and_le_right (by decide), rfl⟩
def rotS (k : Int) : Nat := (BitVec.ofInt IntKind.u64.bits (IntKind.u64.wrap k) &&& BitVec.ofInt IntKind.u64.bits 31).toNat
def rotE (x k : Int) : Int := oE (lE x (rotS k)) (rE x (32 - rotS k))
theorem rot_ok (x k : Int) : VPure Try.prog 62 [.i .u32 x, .i .i64 k] (.i .u32 (rotE x k)) := by
  obtain ⟨s, hs, he⟩ := and31 (IntKind.u64.wrap k)
  have hr : rotS k = s := he
  have h1 : IntKind.u64.wrap (s : Int) = (s : Int) := wrap_u64 (by omega) (by omega)
  have h2 : IntKind.u64.wrap (32 - (s : Int)) = ((32 - s : Nat) : Int) := by rw [wrap_u64 (by omega) (by omega)]; omega
  have h3 : (((32 - s : Nat) : Int) < 0) = False := eq_false (by omega)
  unfold rotE
  rw [hr]
  refine pure_of_body (tyOf_ok _) mixed Try.func62 rfl rfl (fun _ => 0) (by kernel_rfl) (zin ?_)
  dsimp only [Try.f62]

  simp (maxSteps := 1000000) (dsimp := false) (disch := omega) only [zwp_region_f, zwp_seq, zwp_ret, znil_none, nilTest_t, nilOf, zops_nil, zops_none, zstep_eq, zput_some, zthen_some, int_lt0, vop, veval, toVs, toV1, vbinX, vbin, vint, vshift, BinOp.sh, vconv, strip1, strip0, strip, upd_at, initFr_at, vret_r, vres, vresL, vseal, List.getElem?_cons_zero, List.getElem?_cons_succ, Option.map_some, Option.getD_some, Option.bind_some, Option.some.injEq, Bool.false_eq_true, eq_self, reduceCtorEq, ↓reduceIte, Nat.reduceEqDiff, Int.toNat_natCast, exists_eq_left', Vle_self, ty3, ty22, ty81, he, h1, h2, h3, oE_d, lE_d, rE_d]

def turnE (x : Int) (ns : List Int) : Int := ns.foldl (fun o n => xE o (rotE x (IntKind.i64.wrap (0 - n)))) 0
theorem turned_ok (x : Int) (ns : List Int) (hl : ns.length ≤ 1000) : VPure Try.prog 61 [.i .u32 x, .sl 1 (ns.map (V.i .i64)) .no] (.i .u32 (turnE x ns)) := by
  refine pure_of_body (tyOf_ok _) mixed Try.func61 rfl rfl (fun _ => 0) (by kernel_rfl) (zin ?_)
  dsimp only [Try.f61]

  simp (maxSteps := 1000000) (dsimp := false) (disch := omega) only [zwp_region_f, zwp_seq, zwp_block, znil_none, nilTest_t, nilOf, zops_nil, zops_none, zstep_eq, zput_some, zthen_some, vop, veval, toVs, toV1, vbuiltin, vlen, upd_at, initFr_at, List.map_cons, List.map_nil, List.getElem?_cons_zero, List.getElem?_cons_succ, List.length_map, Option.map_some, Option.getD_some, eq_self, ↓reduceIte, Nat.reduceEqDiff, ty117, List.length_map]
  refine zloop ns.length (fun k fr σ => fr 0 = .i .u32 x ∧ fr 5 = .i .u32 (turnE x (ns.take k)) ∧ fr 8 = .sl 1 (ns.map (V.i .i64)) .no ∧ fr 9 = .i .i64 (ns.length : Int) ∧ fr 10 = .i .i64 (k : Int)) ⟨rfl, rfl, rfl, rfl, rfl⟩ ?_
  rintro k fr ⟨h, n⟩ hk ⟨f0, f5, f8, f9, f10⟩
  by_cases hlt : k < ns.length
  · have hlt' : (k : Int) < (ns.length : Int) := by omega
    have hg : (ns.map (V.i .i64))[k]? = some (.i .i64 ns[k]) := by simp [hlt]
    have ht : turnE x (ns.take (k + 1)) = xE (turnE x (ns.take k)) (rotE x (IntKind.i64.wrap (0 - ns[k]))) := by
      unfold turnE
      rw [List.take_add_one, List.getElem?_eq_getElem hlt, List.foldl_append]; rfl
    rw [ht]

    simp (maxSteps := 1000000) (dsimp := false) (disch := omega) only [zwp_skip, zwp_region_f, zwp_seq, zwp_cond, zwp_block, znil_none, nilTest_t, nilOf, zops_nil, zops_none, zstep_eq, zput_some, zcond_t, zthen_some, zfn_fn, int_lt0, vop, veval, vload, vpart, vbinX, vbin, vint, BinOp.sh, vun, viaddr, strip1, strip0, upd_at, hintOf, V.cells, TD.agg, varg1, varg, vargs, List.map_cons, List.map_nil, List.getElem?_cons_zero, List.append_nil, Option.map_some, Bool.false_eq_true, Bool.or_false, decide_true, eq_self, reduceCtorEq, ↓reduceIte, Nat.reduceEqDiff, Int.toNat_natCast, ty3, ty117, f0, f5, f8, f9, f10, hlt', hg]
    refine zcall_pure (rot_ok _ _) (by first | exact fun h => Bool.noConfusion h | exact fun _ => rfl | exact fun _ => free_bv _ _ _) ?_
    simp (maxSteps := 1000000) (dsimp := false) (disch := omega) only [zwp_region_f, znil_none, nilTest_t, nilOf, zops_nil, zops_none, zstep_eq, zput_some, zthen_some, vop, veval, toVs, toV1, vbinX, vbin, vint, BinOp.sh, upd_at, vrecv, Option.map_some, V.i.injEq, true_and, Bool.false_eq_true, eq_self, reduceCtorEq, ↓reduceIte, Nat.reduceEqDiff, ty3, ty22, wrap_i64, f0, f8, f9, f10, xE_d]
    exact ⟨hlt, by omega⟩
  · have hlt' : ¬ (k : Int) < (ns.length : Int) := by omega
    have hke : k = ns.length := by omega
    subst hke
    rw [List.take_length] at f5

    simp (maxSteps := 1000000) (dsimp := false) (disch := omega) only [zwp_region_f, zwp_seq, zwp_cond, zwp_exit, zwp_ret, znil_none, nilTest_t, nilOf, zops_nil, zops_none, zstep_eq, zput_some, zcond_f, zthen_some, vop, veval, vbinX, vbin, vint, BinOp.sh, strip1, strip0, strip, upd_at, vret_r, vres, vresL, vseal, Option.map_some, Option.bind_some, Option.some.injEq, Bool.false_eq_true, decide_false, eq_self, ↓reduceIte, Nat.reduceEqDiff, exists_eq_left', Vle_self, ty3, f5, f9, f10, hlt']

/-- A row of the schedule. -/
def rowE (w : List Int) (i : Nat) (cs : List UInt8) : List Int := cs.foldl (fun w c => w.set i (oE (lE (w.getD i 0) 8) (c.toNat : Int))) w
theorem rowE_length (i : Nat) (cs : List UInt8) (w : List Int) : (rowE w i cs).length = w.length := by
  unfold rowE
  induction cs generalizing w with
  | nil => rfl
  | cons c cs ih => rw [List.foldl_cons, ih, List.length_set]
def rowsE (b : List UInt8) : Nat → List Int
  | 0 => List.replicate 64 0
  | i + 1 => rowE (rowsE b i) i ((b.drop (4 * i)).take 4)
theorem rowsE_length (b : List UInt8) : ∀ i, (rowsE b i).length = 64
  | 0 => List.length_replicate
  | i + 1 => by rw [rowsE, rowE_length, rowsE_length b i]
def nextE (w : List Int) (i : Nat) : Int :=
  aE (aE (aE (w.getD (i - 16) 0) (w.getD (i - 7) 0)) (xE (turnE (w.getD (i - 15) 0) [7, 18]) (rE (w.getD (i - 15) 0) 3))) (xE (turnE (w.getD (i - 2) 0) [17, 19]) (rE (w.getD (i - 2) 0) 10))
def restE (b : List UInt8) : Nat → List Int
  | 0 => rowsE b 16
  | j + 1 => (restE b j).set (16 + j) (nextE (restE b j) (16 + j))
theorem restE_length (b : List UInt8) : ∀ j, (restE b j).length = 64
  | 0 => rowsE_length b 16
  | j + 1 => by rw [restE, List.length_set, restE_length b j]

theorem schedule_ok (b : List UInt8) (hb : b.length = 64) : VPure Try.prog 59 [.sl 1 (bv b) .no] (.agg (uw (restE b 48))) := by
  refine pure_of_body (tyOf_ok _) mixed Try.func59 rfl rfl (fun _ => 0) (by kernel_rfl) (zin ?_)
  dsimp only [Try.f59]

  simp (maxSteps := 1000000) (dsimp := false) (disch := omega) only [zwp_region_f, zwp_seq, zwp_block, znil_none, nilTest_t, nilOf, zops_nil, zops_none, zstep_eq, zput_some, zthen_some, vop, veval, toVs, toV1, valloc, St.new, Nat.reduceAdd, Nat.zero_add, ty112]
  refine zloop 16 (fun i fr σ => fr 0 = .sl 1 (bv b) .no ∧ fr 2 = .ptr 0 0 ∧ fr 3 = .ptr 1 0 ∧ fr 10 = .i .i64 (i : Int) ∧ σ.n = 2 ∧ (∃ cs, σ.h 0 = some (.cells cs) ∧ cs.length = 64) ∧ σ.h 1 = some (.cells (uw (rowsE b i)))) ⟨rfl, rfl, rfl, rfl, rfl, ⟨_, rfl, rfl⟩, rfl⟩ ?_
  rintro i fr ⟨h, n⟩ hi ⟨f0, f2, f3, f10, hn, ⟨cs, g0, gl⟩, g1⟩
  simp only at hn g0 g1
  subst hn
  have hW := rowsE_length b i
  by_cases hlt : i < 16
  · have hlt' : (i : Int) < 16 := by omega
    have e1 : (i : Int) * 4 = ((4 * i : Nat) : Int) := by omega
    have e2 : ((i : Int) + 1) * 4 = ((4 * i + 4 : Nat) : Int) := by omega
    have e3 : 4 * i ≤ 4 * i + 4 := by omega
    have e4 : 4 * i + 4 ≤ 64 := by omega
    have e5 : 4 * i + 4 - 4 * i = 4 := by omega
    have e6 : (((b.drop (4 * i)).take 4).length : Int) = 4 := by simp; omega
    have e7 : ((b.drop (4 * i)).take 4).length = 4 := by simp; omega
    have e8 : List.take 4 (List.drop (4 * i) (bv b)) = bv ((b.drop (4 * i)).take 4) := by simp [bv]
    rw [show rowsE b (i + 1) = rowE (rowsE b i) i ((b.drop (4 * i)).take 4) from rfl]
    generalize (b.drop (4 * i)).take 4 = C at *
    generalize rowsE b i = W at *

    simp (maxSteps := 1000000) (dsimp := false) (disch := omega) only [zwp_skip, zwp_region_f, zwp_seq, zwp_cond, zwp_block, znil_none, nilTest_t, nilOf, zops_nil, zops_none, zstep_eq, zput_some, zcond_t, zthen_some, int_lt0, vop, veval, toVs, toV1, vbuiltin, vlen, vbinX, vbin, vint, BinOp.sh, vslice, vbnd, upd_at, List.map_cons, List.map_nil, Option.map_some, Option.map_none, Option.isSome_some, Option.isSome_none, and_false, false_and, true_or, and_self, or_self, Bool.false_eq_true, decide_true, ite_self, false_implies, eq_self, reduceCtorEq, ↓reduceIte, Nat.reduceEqDiff, Nat.le_refl, Int.toNat_natCast, ty3, ty5, ty27, bv_length, wrap_i64, bv_length, f0, f10, hlt', hb, e1, e2, e3, e4, e5, e6, e8]
    refine zloop 4 (fun q fr σ => fr 0 = .sl 1 (bv b) .no ∧ fr 2 = .ptr 0 0 ∧ fr 3 = .ptr 1 0 ∧ fr 10 = .i .i64 (i : Int) ∧ fr 4 = .i .i64 (i : Int) ∧ fr 19 = .sl 1 (bv C) .no ∧ fr 20 = .i .i64 4 ∧ fr 21 = .i .i64 (q : Int) ∧ σ.n = 2 ∧ σ.h 0 = some (.cells cs) ∧ σ.h 1 = some (.cells (uw (rowE W i (C.take q))))) ⟨f0, f2, f3, f10, rfl, rfl, rfl, rfl, rfl, g0, g1⟩ ?_
    clear f0 f2 f3 f10 g0 g1 fr h
    rintro q fr ⟨h, n⟩ hq ⟨f0, f2, f3, f10, f4, f19, f20, f21, hn, g0, g1⟩
    simp only at hn g0 g1
    subst hn
    by_cases hql : q < 4
    · have hql' : (q : Int) < 4 := by omega
      have hqC : q < C.length := by omega
      have hgc : (bv C)[q]? = some (.i .u8 (C[q].toNat : Int)) := by simp [bv, hqC]
      have ht : rowE W i (C.take (q + 1)) = (rowE W i (C.take q)).set i (oE (lE ((rowE W i (C.take q)).getD i 0) 8) (C[q].toNat : Int)) := by
        unfold rowE
        rw [List.take_add_one, List.getElem?_eq_getElem hqC, List.foldl_append]; rfl
      have hl2 : (rowE W i (C.take q)).length = 64 := by rw [rowE_length, hW]
      rw [ht]
      generalize rowE W i (C.take q) = W2 at *
      generalize C[q] = c at *
      have hc := c.toNat_lt
      have hcw : IntKind.u32.wrap (c.toNat : Int) = (c.toNat : Int) := wrap_u32 (by omega) (by omega)
      have hi2 : i < W2.length := by omega
      have k1 := uw_get hi2
      have k2 := fun y => uw_set hi2 y
      have k3 := uw_length W2
      rw [hl2] at k3
      have hi3 : i < 64 := by omega

      simp (maxSteps := 1000000) (dsimp := false) (disch := omega) only [zwp_skip, zwp_region_f, zwp_seq, zwp_cond, zwp_block, znil_none, nilTest_t, nilOf, zops_nil, zops_none, zstep_eq, zput_some, zput_none, zcond_t, zthen_some, int_lt0, vop, veval, toVs, toV1, vstore, vload, vpart, vbinX, vbin, vint, vshift, BinOp.sh, vconv, viaddr, upd_at, St.put, V.cells, V.isVal, TD.agg, List.getElem?_cons_zero, List.nil_append, List.cons_append, List.length_cons, List.length_nil, List.append_assoc, Option.map_some, V.i.injEq, and_true, true_and, and_self, Bool.false_eq_true, decide_true, eq_self, reduceCtorEq, ↓reduceIte, Nat.reduceLeDiff, Nat.reduceEqDiff, Nat.zero_add, Nat.mul_one, Int.toNat_natCast, Int.reduceLT, Int.reduceToNat, ty3, ty5, ty22, ty27, ty112, wrap_i64, if_pos, f0, f2, f3, f10, f4, f19, f20, f21, g0, g1, hql', hgc, hcw, k1, k2, k3, hi3, oE_d, lE_d]
      exact ⟨hql, by omega⟩
    · have hql' : ¬ (q : Int) < 4 := by omega
      have hC : C.take q = C := List.take_of_length_le (by omega)
      rw [hC] at g1

      simp (maxSteps := 1000000) (dsimp := false) (disch := omega) only [zwp_region_f, zwp_seq, zwp_cond, zwp_exit, znil_none, nilTest_t, nilOf, zops_nil, zops_none, zstep_eq, zput_some, zcond_f, zthen_some, vop, veval, toVs, toV1, vbinX, vbin, vint, BinOp.sh, upd_at, Option.map_some, Option.some.injEq, V.i.injEq, and_true, true_and, Bool.false_eq_true, decide_false, eq_self, reduceCtorEq, ↓reduceIte, Nat.reduceEqDiff, ty3, wrap_i64, f0, f2, f3, f10, f20, f21, g0, g1, hql']
      exact ⟨hlt, by omega, _, rfl, gl⟩
  · have hlt' : ¬ (i : Int) < 16 := by omega
    have hie : i = 16 := by omega
    subst hie

    simp (maxSteps := 1000000) (dsimp := false) (disch := omega) only [zwp_region_f, zwp_seq, zwp_cond, zwp_block, zwp_exit, znil_none, nilTest_t, nilOf, zops_nil, zops_none, zstep_eq, zput_some, zcond_f, zthen_some, vop, veval, toVs, toV1, vbinX, vbin, vint, BinOp.sh, upd_at, Option.map_some, Bool.false_eq_true, decide_false, eq_self, ↓reduceIte, Int.reduceLT, ty3, Int.cast_ofNat_Int, f10]
    refine zloop 48 (fun j fr σ => fr 2 = .ptr 0 0 ∧ fr 3 = .ptr 1 0 ∧ fr 7 = .i .i64 ((16 + j : Nat) : Int) ∧ σ.n = 2 ∧ (∃ cs, σ.h 0 = some (.cells cs) ∧ cs.length = 64) ∧ σ.h 1 = some (.cells (uw (restE b j)))) ⟨f2, f3, rfl, rfl, ⟨cs, g0, gl⟩, g1⟩ ?_
    clear f0 f2 f3 f10 g0 g1 gl fr h hW hlt hlt' cs
    rintro j fr ⟨h, n⟩ hj ⟨f2, f3, f7, hn, ⟨cs, g0, gl⟩, g1⟩
    simp only at hn g0 g1
    subst hn
    have hW := restE_length b j
    by_cases hlt : j < 48
    · rw [show restE b (j + 1) = (restE b j).set (16 + j) (nextE (restE b j) (16 + j)) from rfl]
      generalize restE b j = W at *
      obtain ⟨i, hi⟩ : ∃ i, i = 16 + j := ⟨_, rfl⟩
      rw [show 16 + (j + 1) = i + 1 by omega]
      rw [← hi] at f7 ⊢
      have hlt' : (i : Int) < 64 := by omega
      have e15 : (i : Int) - 15 = ((i - 15 : Nat) : Int) := by omega
      have e2 : (i : Int) - 2 = ((i - 2 : Nat) : Int) := by omega
      have e16 : (i : Int) - 16 = ((i - 16 : Nat) : Int) := by omega
      have e7 : (i : Int) - 7 = ((i - 7 : Nat) : Int) := by omega
      have l15 : i - 15 < 64 := by omega
      have l2 : i - 2 < 64 := by omega
      have l16 : i - 16 < 64 := by omega
      have l7 : i - 7 < 64 := by omega
      have li : i < 64 := by omega
      have k15 := uw_get (l := W) (i := i - 15) (by omega)
      have k2 := uw_get (l := W) (i := i - 2) (by omega)
      have k16 := uw_get (l := W) (i := i - 16) (by omega)
      have k7 := uw_get (l := W) (i := i - 7) (by omega)
      have ks := fun y => uw_set (l := W) (i := i) (by omega) y
      have kl := uw_length W
      rw [hW] at kl

      simp (maxSteps := 1000000) (dsimp := false) (disch := omega) only [zlate_0, zwp_skip, zwp_region_f, zwp_region_t, zwp_seq, zwp_cond, zwp_block, znil_none, nilTest_f, nilTest_t, nilOf, zops_nil, zops_none, zstep_eq, zput_some, zcond_t, zthen_some, zfn_fn, int_lt0, vop, veval, vprt, toVs, toV1, vload, vpart, vblit, vlits, zeroElem, vbinX, vbin, vint, BinOp.sh, viaddr, strip1, strip0, upd_at, hintOf, V.cells, V.isVal, TD.agg, varg1, varg, vargs, List.map_cons, List.map_nil, List.append_nil, List.length_cons, List.length_nil, List.set_cons_zero, List.set_cons_succ, Option.map_some, and_self, Bool.false_eq_true, Bool.or_false, decide_true, eq_self, ↓reduceIte, Nat.reduceLT, Nat.reduceLeDiff, Nat.reduceEqDiff, Nat.reduceAdd, Nat.zero_add, Nat.mul_one, Int.toNat_natCast, ty3, ty22, ty112, ty117, List.replicate_zero, wrap_i64, f3, f7, g1, hlt', e15, e2, e16, e7, l15, l2, l16, l7, k15, k2, k16, k7, aE_d, List.replicate_succ]
      refine zcall_pure (turned_ok _ [7, 18] (by decide)) (by first | exact fun h => Bool.noConfusion h | exact fun _ => rfl | exact fun _ => free_bv _ _ _) ?_
      simp (maxSteps := 1000000) (dsimp := false) (disch := omega) only [znil_none, nilTest_f, zops_none, zstep_eq, zput_some, zthen_some, zfn_fn, vop, veval, vprt, toVs, toV1, vblit, vlits, zeroElem, vbinX, vbin, vint, vshift, BinOp.sh, strip1, strip0, upd_at, vrecv, hintOf, V.cells, V.isVal, TD.agg, varg1, varg, vargs, List.map_cons, List.map_nil, List.append_nil, List.length_cons, List.length_nil, List.set_cons_zero, List.set_cons_succ, Option.map_some, and_self, Bool.false_eq_true, Bool.or_false, eq_self, ↓reduceIte, Nat.reduceLT, Nat.reduceLeDiff, Nat.reduceEqDiff, Nat.reduceAdd, Nat.zero_add, Nat.mul_one, Int.reduceLT, Int.reduceToNat, ty3, ty22, ty117, List.replicate_zero, xE_d, aE_d, rE_d, List.replicate_succ]
      refine zcall_pure (turned_ok _ [17, 19] (by decide)) (by first | exact fun h => Bool.noConfusion h | exact fun _ => rfl | exact fun _ => free_bv _ _ _) ?_
      simp (maxSteps := 1000000) (dsimp := false) (disch := omega) only [zlate_0, zwp_region_f, znil_none, nilTest_f, nilTest_t, nilOf, zops_nil, zops_none, zstep_eq, zput_some, zput_none, zthen_some, int_lt0, vop, veval, toVs, toV1, vstore, vbinX, vbin, vint, vshift, BinOp.sh, viaddr, upd_at, St.put, vrecv, V.cells, V.isVal, List.nil_append, List.cons_append, List.length_cons, List.length_nil, List.append_assoc, Option.map_some, Option.some.injEq, V.i.injEq, and_true, true_and, Bool.false_eq_true, eq_self, reduceCtorEq, ↓reduceIte, Nat.reduceLeDiff, Nat.reduceEqDiff, Nat.zero_add, Nat.mul_one, Int.toNat_natCast, Int.reduceLT, Int.reduceToNat, ty3, ty22, ty112, List.replicate_zero, wrap_i64, if_pos, f2, f3, f7, g0, g1, li, ks, kl, xE_d, aE_d, rE_d, List.replicate_succ]
      exact ⟨hlt, by omega, ⟨_, rfl, gl⟩, rfl⟩
    · have hje : j = 48 := by omega
      subst hje
      have kl := uw_length (restE b 48)
      rw [hW] at kl
      have ko := uw_one (restE b 48)
      have kt : List.take 64 (uw (restE b 48)) = uw (restE b 48) := List.take_of_length_le (by omega)
      have kd : ∀ v : List V, v.length = 64 → List.drop 64 v = [] := fun v h => List.drop_eq_nil_of_le (by omega)
      have kd' := kd _ gl
      have kst := uw_strip (restE b 48)
      generalize restE b 48 = W at *

      simp (maxSteps := 1000000) (dsimp := false) (disch := omega) only [zwp_region_f, zwp_seq, zwp_cond, zwp_exit, zwp_ret, znil_none, nilTest_t, nilOf, zops_nil, zops_none, zstep_eq, zput_some, zput_none, zcond_f, zthen_some, vop, veval, toVs, toV1, vstore, vload, vpart, vbinX, vbin, vint, BinOp.sh, strip0, strip, upd_at, St.put, V.cells, V.isVal, TD.agg, vret_r, vres, vresL, vseal, List.take_zero, List.drop_zero, List.nil_append, List.append_nil, Option.map_some, Option.bind_some, Option.some.injEq, and_self, Bool.false_eq_true, decide_false, eq_self, ↓reduceIte, Nat.reduceEqDiff, Nat.reduceAdd, Nat.zero_add, Nat.le_refl, Int.reduceLT, exists_eq_left', Vle_self, ty3, ty112, Int.cast_ofNat_Int, f2, f3, f7, g0, g1, kl, kt, kd', kst, gl]
end Go.Proofs.Ytkcapmodgkficaa
