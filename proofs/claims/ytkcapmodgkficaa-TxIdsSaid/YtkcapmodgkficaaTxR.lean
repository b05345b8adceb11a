/- Transactions: taking bytes. -/
import Derived.Test.YtkcapmodgkficaaTxQ
namespace Go.Proofs.Ytkcapmodgkficaa
open Go.Vx Go.Fl
set_option maxRecDepth 100000
set_option maxHeartbeats 4000000
set_option linter.unusedSimpArgs false
set_option linter.unusedVariables false

/-- A reader: what is left, what went wrong. -/
abbrev RdT := List UInt8 × Nat
def rcell (R : RdT) : Option Ob := some (.cells [.sl 1 (bv R.1) .no, .i .i64 (R.2 : Int)])
def takeP (n : Nat) (R : RdT) : Option (List UInt8) × RdT :=
  if R.2 = 0 then (if R.1.length < n then (none, (R.1, 1)) else (some (R.1.take n), (R.1.drop n, R.2))) else (none, R)
def takeV : Option (List UInt8) → V
  | none => .sl 0 [] .clip
  | some l => .sl 1 (bv l) .no
def setR (σ : St) (o : Nat) (R : RdT) : St := ⟨upd σ.h o (rcell R), σ.n⟩
theorem setR_self {σ : St} {o : Nat} {R : RdT} (h : σ.h o = rcell R) : setR σ o R = σ := by
  unfold setR
  have : upd σ.h o (rcell R) = σ.h := by
    funext p
    by_cases hp : p = o
    · subst hp; rw [upd_same, h]
    · rw [upd_ne _ _ hp]
  rw [this]
theorem setR_at (σ : St) (o : Nat) (R : RdT) : (setR σ o R).h o = rcell R := upd_same _ _ _
theorem setR_ne (σ : St) {o p : Nat} (R : RdT) (h : p ≠ o) : (setR σ o R).h p = σ.h p := upd_ne _ _ h
theorem setR_n (σ : St) (o : Nat) (R : RdT) : (setR σ o R).n = σ.n := rfl

theorem take_ok (σ : St) (o : Nat) (R : RdT) (n : Nat) (hn : n ≤ 1000000) (hR : σ.h o = rcell R) :
    VRef Try.prog 44 [.ptr o 0, .i .i64 (n : Int)] σ (fun v σ' => v = takeV (takeP n R).1 ∧ σ' = setR σ o (takeP n R).2) := by
  obtain ⟨L, e⟩ := R
  have hR' : σ.h o = some (.cells [.sl 1 (bv L) .no, .i .i64 (e : Int)]) := hR
  obtain ⟨h, m⟩ := σ
  simp only at hR'
  by_cases he : e = 0
  · have he' : (e : Int) = 0 := by omega
    by_cases hl : L.length < n
    · have hl' : (L.length : Int) < (n : Int) := by omega
      have hT : takeP n (L, e) = (none, (L, 1)) := by simp [takeP, he, hl]
      rw [hT]
      refine ref_of_body (tyOf_ok _) mixed Try.func44 rfl rfl (fun _ => 0) (by kernel_rfl) (fun hwf => zin ?_)
      dsimp only [Try.f44]

      simp (maxSteps := 1000000) (dsimp := false) (disch := omega) only [zwp_region_f, zwp_seq, zwp_cond, zwp_block, zwp_ret, znil_none, nilTest_t, nilOf, zops_nil, zops_none, zstep_eq, zput_some, zput_none, zcond_t, zcond_f, zthen_some, vop, veval, toVs, toV1, vstore, vload, vpart, vbuiltin, vlen, vbinX, vbin, vint, BinOp.sh, vfaddr, upd_at, initFr_at, St.put, V.cells, V.isVal, TD.agg, rret_r, vres, vresL, List.map_cons, List.map_nil, List.getElem?_cons_zero, List.getElem?_cons_succ, List.take_succ_cons, List.take_zero, List.drop_succ_cons, List.drop_nil, List.nil_append, List.cons_append, List.append_nil, List.length_cons, List.length_nil, Option.map_some, Option.getD_some, Option.some.injEq, and_self, Bool.false_eq_true, Bool.not_true, decide_true, beq_self_eq_true, eq_self, reduceCtorEq, ↓reduceIte, Nat.reduceEqDiff, Nat.reduceAdd, Nat.zero_add, Nat.add_zero, Nat.le_refl, exists_eq_left', ty3, ty27, ty30, ty73, bv_length, bne, hR', he', hl']
      exact ⟨rfl, rfl⟩
    · have hl' : ¬ (L.length : Int) < (n : Int) := by omega
      have hT : takeP n (L, e) = (some (L.take n), (L.drop n, e)) := by simp [takeP, he, hl]
      rw [hT]
      refine ref_of_body (tyOf_ok _) mixed Try.func44 rfl rfl (fun _ => 0) (by kernel_rfl) (fun hwf => zin ?_)
      dsimp only [Try.f44]

      simp (maxSteps := 1000000) (dsimp := false) (disch := omega) only [zwp_skip, zwp_region_f, zwp_seq, zwp_cond, zwp_block, zwp_ret, znil_none, nilTest_t, nilOf, zops_nil, zops_none, zstep_eq, zput_some, zput_none, zcond_f, zthen_some, int_lt0, vop, veval, toVs, toV1, vstore, vload, vpart, vbuiltin, vlen, vbinX, vbin, vint, BinOp.sh, vslice, vbnd, vfaddr, upd_at, initFr_at, St.put, V.cells, V.isVal, TD.agg, rret_r, vres, vresL, List.map_cons, List.map_nil, List.getElem?_cons_zero, List.getElem?_cons_succ, List.take_zero, List.drop_succ_cons, List.drop_zero, List.nil_append, List.cons_append, List.length_cons, List.length_nil, Option.map_some, Option.map_none, Option.getD_some, Option.isSome_some, Option.isSome_none, Option.some.injEq, and_true, true_and, and_false, false_and, true_or, and_self, or_self, Bool.false_eq_true, Bool.not_true, decide_false, ite_self, beq_self_eq_true, false_implies, eq_self, reduceCtorEq, ↓reduceIte, Nat.reduceLeDiff, Nat.reduceEqDiff, Nat.reduceAdd, Nat.zero_add, Nat.add_zero, Nat.sub_zero, Nat.zero_le, Nat.le_refl, Int.toNat_natCast, exists_eq_left', ty3, ty5, ty27, ty30, ty73, bv_length, bne, if_pos, hR', he', hl']
      refine ⟨by rw [bv_take]; rfl, ?_⟩
      have e1 : List.take (L.length - n) (List.drop n (bv L)) = bv (L.drop n) := by
        rw [List.take_of_length_le (by simp), bv_drop]
      subst he
      rw [e1]; rfl
  · have he' : ¬ (e : Int) = 0 := by omega
    have hT : takeP n (L, e) = (none, (L, e)) := by simp [takeP, he]
    rw [hT, setR_self hR]
    refine ref_of_body (tyOf_ok _) mixed Try.func44 rfl rfl (fun _ => 0) (by kernel_rfl) (fun hwf => zin ?_)
    dsimp only [Try.f44]

    simp (maxSteps := 1000000) (dsimp := false) (disch := omega) only [zwp_region_f, zwp_seq, zwp_cond, zwp_block, zwp_ret, znil_none, nilTest_t, nilOf, zops_nil, zops_none, zstep_eq, zput_some, zcond_t, zthen_some, int_beq, vop, veval, toVs, toV1, vload, vpart, vbinX, vbin, vint, BinOp.sh, vfaddr, upd_at, initFr_at, TD.agg, rret_r, vres, vresL, List.getElem?_cons_zero, List.getElem?_cons_succ, Option.map_some, Option.getD_some, Option.some.injEq, and_true, Bool.false_eq_true, Bool.not_false, decide_false, eq_self, reduceCtorEq, ↓reduceIte, Nat.zero_add, exists_eq_left', ty30, ty73, bne, hR', he']
    rfl
end Go.Proofs.Ytkcapmodgkficaa
