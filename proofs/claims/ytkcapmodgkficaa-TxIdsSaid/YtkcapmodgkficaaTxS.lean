/- Transactions: taking numbers. -/
import Derived.Test.YtkcapmodgkficaaTxR
namespace Go.Proofs.Ytkcapmodgkficaa
open Go.Vx Go.Fl
set_option maxRecDepth 100000
set_option maxHeartbeats 4000000
set_option linter.unusedSimpArgs false
set_option linter.unusedVariables false

/-- What slices.Backward hands out. -/
def bwd (l : List UInt8) : List (List V) := (List.range l.length).map fun (k : Nat) => [V.i .i64 ((l.length : Int) - 1 - (k : Int)), V.i .u8 (((l[l.length - 1 - k]?).getD 0).toNat : Int)]
theorem bwd_at (l : List UInt8) (k : Nat) (h : k < l.length) : (bwd l)[k]? = some [V.i .i64 ((l.length : Int) - 1 - (k : Int)), V.i .u8 ((l[l.length - 1 - k]).toNat : Int)] := by
  simp [bwd, h, show l.length - 1 - k < l.length by omega]
theorem bwd_length (l : List UInt8) : (bwd l).length = l.length := by simp [bwd]

theorem bwd1_ok (l : List UInt8) (z : Nat) (hz : z = 1 ∨ l = []) (hl : l.length ≤ 1000000) : VIter Try.prog 52 [.rp [.sl z (bv l) .no]] (bwd l) := by
  refine iter_of_body (tyOf_ok _) mixed Try.func52 rfl rfl rfl (fun yl => ziwin ?_)

  simp (maxSteps := 1000000) (dsimp := false) (disch := omega) only [ziw_f, ziw_seq, ziw_block, ziops_nil, ziops_cons, zistep_eq, zput_some, zwant_t, zthen_some, wantedV, vop, veval, toVs, toV1, vload, vpart, vbuiltin, vlen, vbinX, vbin, vint, BinOp.sh, upd_at, initFr_at, TD.agg, List.map_cons, List.map_nil, List.getElem?_cons_zero, List.getElem?_cons_succ, Option.map_some, Option.getD_some, true_and, Bool.false_eq_true, eq_self, ↓reduceIte, ty3, ty27, bv_length, wrap_i64, Try.f52]
  refine ziloop l.length (fun k fr s => fr 0 = .yld yl ∧ fr 1 = .rp [.sl z (bv l) .no] ∧ fr 3 = .i .i64 ((l.length : Int) - 1 - (k : Int)) ∧ s = ⟨k, false⟩) ⟨rfl, rfl, by simp [upd_at], rfl⟩ ?_
  rintro k fr s hk ⟨f0, f1, f3, rfl⟩
  by_cases h : k < l.length
  · have hz1 : z = 1 := by
      rcases hz with hz | rfl
      · exact hz
      · simp at h
    subst hz1
    have h1 : (0 : Int) ≤ (l.length : Int) - 1 - (k : Int) := by omega
    have h2 : ((l.length : Int) - 1 - (k : Int)).toNat = l.length - 1 - k := by omega
    have h3 : (l.length : Int) - 1 - (k : Int) < (l.length : Int) := by omega
    have h4 : (bv l)[l.length - 1 - k]? = some (.i .u8 ((l[l.length - 1 - k]).toNat : Int)) := by simp [bv, show l.length - 1 - k < l.length by omega]
    have h5 := bwd_at l k h

    simp (maxSteps := 1000000) (dsimp := false) (disch := omega) only [ziw_skip, ziw_f, ziw_seq, ziw_cond, ziw_block, ziw_ret, ziops_nil, ziops_cons, zistep_eq, zyfn_yld, iret_r, zput_some, zcond_t, zcond_f, zwant_t, zthen_some, wantedV, vop, veval, toVs, toV1, vload, vpart, vbinX, vbin, vint, BinOp.sh, vun, viaddr, strip1, strip0, stripTL, upd_at, V.cells, TD.agg, List.map_cons, List.map_nil, List.getElem?_cons_zero, Option.map_some, Option.some.injEq, V.i.injEq, and_true, true_and, true_or, and_self, Bool.false_eq_true, Bool.not_true, Bool.not_false, decide_true, eq_self, reduceCtorEq, ↓reduceIte, Nat.reduceEqDiff, ty3, ty5, ty27, ge_iff_le, wrap_i64, if_neg, f0, f1, f3, h1, h2, h4, h5, bwd_length]
    exact ⟨⟨_, rfl⟩, h, by omega⟩
  · have h1 : ¬ (0 : Int) ≤ (l.length : Int) - 1 - (k : Int) := by omega

    simp (maxSteps := 1000000) (dsimp := false) (disch := omega) only [ziw_f, ziw_seq, ziw_cond, ziw_exit, ziops_nil, ziops_cons, zistep_eq, iret_n, zput_some, zcond_f, zwant_t, zthen_some, wantedV, vop, veval, toVs, toV1, vbinX, vbin, vint, BinOp.sh, upd_at, Option.map_some, true_and, false_or, Bool.false_eq_true, decide_false, eq_self, ↓reduceIte, ty3, ge_iff_le, f3, h1, bwd_length]
    omega

theorem bwd_ok (l : List UInt8) (z : Nat) : VPure Try.prog 43 [.sl z (bv l) .no] (.fn 52 [.rp [.sl z (bv l) .no]]) := by
  refine pure_of_body (tyOf_ok _) mixed Try.func43 rfl rfl (fun _ => 0) (by kernel_rfl) (zin ?_)
  dsimp only [Try.f43]

  simp (maxSteps := 1000000) (dsimp := false) (disch := omega) only [zwp_region_f, zwp_seq, zwp_ret, znil_none, nilTest_t, nilOf, zops_nil, zops_none, zstep_eq, zput_some, zthen_some, vop, veval, toVs, toV1, vbox, strip1, stripL, upd_at, initFr_at, St.new, V.cells, V.isVal, vret_r, vres, vresL, vseal, vcap, vcaps, List.map_cons, List.map_nil, List.getElem?_cons_zero, List.drop_zero, List.isEmpty_nil, List.isEmpty_toArray, Option.map_some, Option.getD_some, Option.bind_some, Option.some.injEq, eq_self, ↓reduceIte, Nat.reduceEqDiff, Nat.zero_add, exists_eq_left', Vle_self]

theorem leVal_drop (l : List UInt8) (k : Nat) (h : k < l.length) : leVal (l.drop (l.length - (k + 1))) = (l[l.length - 1 - k]).toNat + 256 * leVal (l.drop (l.length - k)) := by
  rw [List.drop_eq_getElem_cons (by omega : l.length - (k + 1) < l.length), leVal]
  have e : l.length - 1 - k = l.length - (k + 1) := by omega
  have e2 : l.length - (k + 1) + 1 = l.length - k := by omega
  simp only [e, e2]
theorem leVal_drop_lt (l : List UInt8) (k : Nat) (h : k < l.length) (hl : l.length ≤ 8) : leVal (l.drop (l.length - k)) < 72057594037927936 := by
  have := leVal_lt (l.drop (l.length - k))
  rw [List.length_drop, show l.length - (l.length - k) = k by omega] at this
  have h2 : 256 ^ k ≤ 256 ^ 7 := Nat.pow_le_pow_right (by omega) (by omega)
  omega

/-- What is known of the others stays. -/
def KeepR (o : Nat) (σ σ' : St) : Prop := σ.n ≤ σ'.n ∧ ∀ p, p < σ.n → p ≠ o → σ'.h p = σ.h p
def numP (n : Nat) (R : RdT) : Nat × RdT := ((match (takeP n R).1 with | none => 0 | some l => leVal l), (takeP n R).2)

theorem rnumber_ok (σ : St) (o : Nat) (R : RdT) (k : Nat) (hk : k ≤ 8) (ho : o < σ.n) (hR : σ.h o = rcell R) :
    VRef Try.prog 25 [.ptr o 0, .i .i64 (k : Int)] σ (fun v σ' => v = .i .u64 ((numP k R).1 : Int) ∧ σ'.h o = rcell (numP k R).2 ∧ KeepR o σ σ') := by
  have hT : ∀ l, (takeP k R).1 = some l → l.length ≤ 8 := by
    intro l h
    unfold takeP at h
    split at h
    · split at h
      · cases h
      · simp only [Option.some.injEq] at h
        rw [← h, List.length_take]; omega
    · cases h
  have hS := fun (s : St) (h : s.h o = rcell R) => take_ok s o R k (by omega) h
  unfold numP
  generalize takeP k R = T at *
  obtain ⟨x, R'⟩ := T
  obtain ⟨h, m⟩ := σ
  simp only at ho hR hT hS
  have n1 : o ≠ m := by omega
  have n2 : m ≠ o := by omega
  cases x with
  | none =>
    simp only
    refine ref_of_body (tyOf_ok _) mixed Try.func25 rfl rfl (fun _ => 0) (by kernel_rfl) (fun hwf => zin ?_)
    dsimp only [Try.f25]

    simp (maxSteps := 1000000) (dsimp := false) (disch := omega) only [zwp_region_f, zwp_seq, znil_none, nilTest_t, nilOf, zops_nil, zops_none, zstep_eq, zput_some, zput_none, zthen_some, zfn_fn, vop, veval, toVs, toV1, valloc, vstore, strip1, strip0, upd_at, initFr_at, St.new, St.put, hintOf, V.cells, V.isVal, varg1, varg, vargs, List.map_cons, List.map_nil, List.getElem?_cons_zero, List.getElem?_cons_succ, List.take_zero, List.drop_succ_cons, List.drop_zero, List.drop_nil, List.nil_append, List.append_nil, List.length_cons, List.length_nil, Option.map_some, Option.getD_some, and_self, Bool.or_false, eq_self, reduceCtorEq, ↓reduceIte, Nat.reduceEqDiff, Nat.zero_add, Nat.le_refl, ty48, n1]
    refine zcall_r (hS _ (by simp only; rw [upd_ne _ _ n1, upd_ne _ _ n1]; exact hR)) ?_
    rintro v s ⟨rfl, rfl⟩

    simp (maxSteps := 1000000) (dsimp := false) (disch := omega) only [znil_none, nilTest_t, nilOf, zops_none, zstep_eq, zput_some, zfn_fn, veval, strip1, strip0, upd_at, hintOf, varg1, varg, vargs, List.map_cons, List.map_nil, List.append_nil, Option.map_some, Bool.or_false, eq_self, ↓reduceIte, takeV, setR]
    have B := bwd_ok [] 0
    have I1 := bwd1_ok [] 0 (.inr rfl) (by simp)
    rw [show bv [] = [] from rfl] at B I1
    refine zcall_pure (B) (by first | exact fun h => Bool.noConfusion h | exact fun _ => rfl | exact fun _ => free_bv _ _ _) ?_
    simp (maxSteps := 1000000) (dsimp := false) (disch := omega) only [zwp_block, zops_nil, zput_some, vrecv]
    refine zrange (F := 52) (us := [.rp [.sl 0 [] .no]]) rfl rfl I1 (fun i s => s = ⟨upd (upd (upd h m (some (.cells [.i .u64 0]))) m (some (.cells [.i .u64 0]))) o (rcell R'), m + 1⟩) rfl (fun x hx => by simp [bwd] at hx) rfl (fun k row s hk => by simp [bwd] at hk) ?_
    rintro s rfl
    have hm : upd (upd (upd h m (some (.cells [.i .u64 0]))) m (some (.cells [.i .u64 0]))) o (rcell R') m = some (.cells [.i .u64 0]) := by rw [upd_ne _ _ n2, upd_same]

    simp (maxSteps := 1000000) (dsimp := false) (disch := omega) only [zwp_region_f, zwp_seq, zwp_ret, znil_none, nilTest_t, nilOf, zops_nil, zops_none, zstep_eq, zput_some, zthen_some, vop, veval, vload, vpart, upd_at, TD.agg, rret_r, vres, vresL, List.getElem?_cons_zero, Option.map_some, Option.some.injEq, true_and, Bool.false_eq_true, eq_self, ↓reduceIte, Nat.reduceEqDiff, exists_eq_left', ty48, Int.cast_ofNat_Int, n2]
    refine ⟨Nat.le_succ _, fun p hp hpo => ?_⟩
    simp only at hp ⊢
    rw [upd_ne _ _ hpo, upd_ne _ _ (by omega), upd_ne _ _ (by omega)]
  | some l =>
    have hl := hT l rfl
    simp only
    refine ref_of_body (tyOf_ok _) mixed Try.func25 rfl rfl (fun _ => 0) (by kernel_rfl) (fun hwf => zin ?_)
    dsimp only [Try.f25]

    simp (maxSteps := 1000000) (dsimp := false) (disch := omega) only [zwp_region_f, zwp_seq, znil_none, nilTest_t, nilOf, zops_nil, zops_none, zstep_eq, zput_some, zput_none, zthen_some, zfn_fn, vop, veval, toVs, toV1, valloc, vstore, strip1, strip0, upd_at, initFr_at, St.new, St.put, hintOf, V.cells, V.isVal, varg1, varg, vargs, List.map_cons, List.map_nil, List.getElem?_cons_zero, List.getElem?_cons_succ, List.take_zero, List.drop_succ_cons, List.drop_zero, List.drop_nil, List.nil_append, List.append_nil, List.length_cons, List.length_nil, Option.map_some, Option.getD_some, and_self, Bool.or_false, eq_self, reduceCtorEq, ↓reduceIte, Nat.reduceEqDiff, Nat.zero_add, Nat.le_refl, ty48, n1]
    refine zcall_r (hS _ (by simp only; rw [upd_ne _ _ n1, upd_ne _ _ n1]; exact hR)) ?_
    rintro v s ⟨rfl, rfl⟩

    simp (maxSteps := 1000000) (dsimp := false) (disch := omega) only [znil_none, nilTest_t, nilOf, zops_none, zstep_eq, zput_some, zfn_fn, veval, strip1, strip0, upd_at, hintOf, varg1, varg, vargs, List.map_cons, List.map_nil, List.append_nil, Option.map_some, Bool.or_false, eq_self, ↓reduceIte, takeV, setR]
    refine zcall_pure (bwd_ok l 1) (by first | exact fun h => Bool.noConfusion h | exact fun _ => rfl | exact fun _ => free_bv _ _ _) ?_
    simp (maxSteps := 1000000) (dsimp := false) (disch := omega) only [zwp_block, zops_nil, zput_some, vrecv]
    refine zrange (F := 52) (us := [.rp [.sl 1 (bv l) .no]]) rfl rfl (bwd1_ok l 1 (.inl rfl) (by omega)) (fun i s => i ≤ l.length ∧ s.h m = some (.cells [.i .u64 ((leVal (l.drop (l.length - i)) : Nat) : Int)]) ∧ s.h o = rcell R' ∧ KeepR o ⟨h, m⟩ s ∧ s.n = m + 1) rfl (fun x hx => ?_) ⟨Nat.zero_le _, by simp only; rw [upd_ne _ _ n2, upd_same]; simp [leVal], upd_same _ _ _, ⟨Nat.le_succ _, fun p hp hpo => ?_⟩, rfl⟩ ?_ ?_
    · simp only [bwd, List.mem_map] at hx
      obtain ⟨j, -, rfl⟩ := hx
      rfl
    · simp only at hp ⊢
      rw [upd_ne _ _ hpo, upd_ne _ _ (by omega), upd_ne _ _ (by omega)]
    · rintro i row ⟨h', m'⟩ hrow ⟨i1, i2, i3, i4, rfl⟩
      simp only at i2 i3
      have hi : i < l.length := by
        rw [← bwd_length l]
        exact (List.getElem?_eq_some_iff.1 hrow).1
      rw [bwd_at l i hi] at hrow
      cases hrow
      have e1 := leVal_drop l i hi
      have e2 := or8 (leVal (l.drop (l.length - i))) (l[l.length - 1 - i]).toNat (leVal_drop_lt l i hi hl) (l[l.length - 1 - i]).toNat_lt
      have e3 : IntKind.u64.wrap ((l[l.length - 1 - i]).toNat : Int) = ((l[l.length - 1 - i]).toNat : Int) := wrap_u64 (by omega) (by have := (l[l.length - 1 - i]).toNat_lt; omega)
      rw [← e1] at e2

      simp (maxSteps := 1000000) (dsimp := false) (disch := omega) only [zwp_region_f, zwp_block, znil_none, nilTest_t, nilOf, zops_nil, zops_none, zstep_eq, zput_some, zput_none, zthen_some, vop, veval, toVs, toV1, vstore, vload, vpart, vbinX, vbin, vint, vshift, BinOp.sh, vconv, upd_at, St.put, V.cells, V.isVal, TD.agg, updL, List.getElem?_cons_zero, List.take_zero, List.drop_succ_cons, List.drop_nil, List.nil_append, List.append_nil, List.length_cons, List.length_nil, Option.map_some, and_true, true_and, and_self, Bool.false_eq_true, eq_self, ↓reduceIte, Nat.reduceEqDiff, Nat.zero_add, Nat.le_refl, Int.reduceLT, Int.reduceToNat, ty5, ty48, n1, i2, i3, updL, e2, e3]
      exact ⟨hi, Nat.le_succ _, fun p hp hpo => by simp only at hp ⊢; rw [upd_ne _ _ (by omega)]; exact i4.2 p hp hpo⟩
    · rintro ⟨h', m'⟩ ⟨i1, i2, i3, i4, i5⟩
      rw [bwd_length, Nat.sub_self, List.drop_zero] at i2
      simp only at i2 i3

      simp (maxSteps := 1000000) (dsimp := false) (disch := omega) only [zwp_region_f, zwp_seq, zwp_ret, znil_none, nilTest_t, nilOf, zops_nil, zops_none, zstep_eq, zput_some, zthen_some, vop, veval, vload, vpart, upd_at, TD.agg, rret_r, vres, vresL, List.getElem?_cons_zero, Option.map_some, Option.some.injEq, true_and, Bool.false_eq_true, eq_self, ↓reduceIte, Nat.reduceEqDiff, exists_eq_left', ty48, i2, i3]
      exact i4
end Go.Proofs.Ytkcapmodgkficaa
