/- Transactions: whether one may be; its bytes. -/
import Derived.Test.YtkcapmodgkficaaTxW
namespace Go.Proofs.Ytkcapmodgkficaa
open Go.Vx Go.Fl
set_option maxRecDepth 100000
set_option maxHeartbeats 2000000
set_option linter.unusedSimpArgs false
set_option linter.unusedVariables false

theorem stripL_bv (l : List UInt8) : stripL (bv l) = some (bv l) := by
  induction l with
  | nil => rfl
  | cons c l ih => rw [show bv (c :: l) = V.i .u8 (c.toNat : Int) :: bv l from rfl]; simp only [stripL, ih]; rfl
theorem stripL_app {a b a' b' : List V} (h1 : stripL a = some a') (h2 : stripL b = some b') : stripL (a ++ b) = some (a' ++ b') := by
  induction a generalizing a' with
  | nil => simp only [stripL, Option.some.injEq] at h1; subst h1; exact h2
  | cons v a ih =>
    simp only [List.cons_append, stripL] at h1 ⊢
    split at h1 <;> first | (cases h1; done) | skip
    rename_i u us hu hus
    simp only [Option.some.injEq] at h1
    subst h1
    rw [hu, ih hus]; rfl
theorem icell_strip (x : TIn) : stripL (icell x) = some (icell x) := stripL_app (stripL_bv _) rfl
def ivok (x : TIn) : Prop := ∃ c, iv x = .agg c ∧ c.length = 35 ∧ c.all V.one = true ∧ stripL c = some c
def ovok (y : TOut) : Prop := ∃ c, ov y = .agg c ∧ c.length = 2 ∧ c.all V.one = true ∧ stripL c = some c
theorem ivok_of {x : TIn} (h : InOk x) : ivok x := ⟨_, rfl, icell_length h.1, icell_one x, icell_strip x⟩
theorem ovok_of (y : TOut) : ovok y := ⟨_, rfl, rfl, rfl, rfl⟩

theorem iindex_ok (F : FuncId) (p : TIn → Bool) (l : List TIn) (hp : ∀ x ∈ l, VPure Try.prog F [iv x] (.b (p x))) (hx : ∀ x ∈ l, ivok x) :
    VPure Try.prog 41 [.sl 35 (l.map iv) .no, .fn F []] (.i .i64 (match l.findIdx? p with | some i => (i : Int) | none => -1)) := by
  refine VPure.lens (enters_of Try.func41 rfl rfl) fun hlen => ?_
  have hl : l.length ≤ 9223372036854775807 := by
    simpa [VLen, V.fn] using hlen
  clear hlen
  refine pure_of_body (tyOf_ok _) mixed Try.func41 rfl rfl (fun _ => 0) (by kernel_rfl) (zin ?_)
  dsimp only [Try.f41]

  simp (maxSteps := 1000000) (dsimp := false) (disch := omega) only [zwp_region_f, zwp_seq, zwp_block, znil_none, nilTest_t, nilOf, zops_nil, zops_none, zstep_eq, zput_some, zthen_some, vop, veval, toVs, toV1, vbuiltin, vlen, upd_at, initFr_at, List.map_cons, List.map_nil, List.getElem?_cons_zero, List.length_map, Option.map_some, Option.getD_some, eq_self, reduceCtorEq, ↓reduceIte, ty33, List.length_map]
  refine zloop l.length (fun k fr σ => fr 0 = .sl 35 (l.map iv) .no ∧ fr 1 = .fn F [] ∧ fr 7 = .i .i64 (l.length : Int) ∧ fr 8 = .i .i64 (k : Int) ∧ σ = ⟨fun _ => none, 0⟩ ∧ ∀ j (h : j < l.length), j < k → p l[j] = false) ⟨rfl, rfl, rfl, rfl, rfl, fun j h hj => by omega⟩ ?_
  rintro k fr σ hk ⟨h0, h1, h7, h8, rfl, hnot⟩
  by_cases hlt : k < l.length
  · have hlt' : (k : Int) < (l.length : Int) := by omega
    have hg : (l.map iv)[k]? = some (iv l[k]) := by simp [hlt]
    have hP := hp l[k] (List.getElem_mem hlt)
    obtain ⟨c, hc, hc1, hc2, hc3⟩ := hx l[k] (List.getElem_mem hlt)
    have hc4 : c.take 35 = c := List.take_of_length_le (by omega)
    have hc5 : stripL c = some c := hc3
    rw [hc] at hg hP

    simp (maxSteps := 1000000) (dsimp := false) (disch := omega) only [zwp_skip, zwp_region_f, zwp_seq, zwp_cond, zwp_block, znil_none, nilTest_t, nilOf, zops_nil, zops_none, zstep_eq, zput_some, zcond_t, zthen_some, zfn_fn, int_lt0, vop, veval, vload, vpart, vbinX, vbin, vint, BinOp.sh, viaddr, strip0, upd_at, hintOf, V.cells, TD.agg, varg1, varg, vargs, List.map_cons, List.map_nil, List.drop_zero, List.append_nil, Option.map_some, Bool.false_eq_true, Bool.or_false, decide_true, eq_self, reduceCtorEq, ↓reduceIte, Nat.reduceEqDiff, Nat.zero_add, Nat.le_refl, Int.toNat_natCast, ty3, ty33, ty59, h0, h1, h7, h8, hlt', hg, hc1, hc4, hc5]
    refine zcall_pure (hP) (by first | exact fun h => Bool.noConfusion h | exact fun _ => rfl | exact fun _ => free_bv _ _ _) ?_
    cases hpk : p l[k] with
    | true =>
      have hx : l.findIdx? p = some k := by
        rw [List.findIdx?_eq_some_iff_getElem]
        exact ⟨hlt, hpk, fun j hj => by simp [hnot j (by omega) hj]⟩
      rw [hx]
      simp (maxSteps := 1000000) (dsimp := false) (disch := omega) only [zwp_region_f, zwp_seq, zwp_cond, zwp_ret, znil_none, nilTest_t, nilOf, zops_nil, zops_none, zstep_eq, zput_some, zcond_t, zthen_some, vop, veval, strip1, strip0, strip, upd_at, vrecv, vret_r, vres, vresL, vseal, Option.map_some, Option.bind_some, Option.some.injEq, eq_self, ↓reduceIte, Nat.reduceEqDiff, exists_eq_left', Vle_self]
    | false =>
      simp (maxSteps := 1000000) (dsimp := false) (disch := omega) only [zwp_skip, zwp_region_f, zwp_cond, znil_none, nilTest_t, nilOf, zops_nil, zops_none, zstep_eq, zput_some, zcond_f, zthen_some, vop, veval, toVs, toV1, vbinX, vbin, vint, BinOp.sh, upd_at, vrecv, Option.map_some, V.i.injEq, true_and, Bool.false_eq_true, eq_self, reduceCtorEq, ↓reduceIte, Nat.reduceEqDiff, ty3, wrap_i64, h0, h1, h7, h8]
      refine ⟨hlt, by omega, fun j h hj => ?_⟩
      by_cases he : j = k
      · subst he; exact hpk
      · exact hnot j h (by omega)
  · have hlt' : ¬ (k : Int) < (l.length : Int) := by omega

    simp (maxSteps := 1000000) (dsimp := false) (disch := omega) only [zwp_region_f, zwp_seq, zwp_cond, zwp_exit, zwp_ret, znil_none, nilTest_t, nilOf, zops_nil, zops_none, zstep_eq, zput_some, zcond_f, zthen_some, vop, veval, toVs, toV1, vbinX, vbin, vint, BinOp.sh, strip1, strip0, strip, upd_at, vret_r, vres, vresL, vseal, Option.map_some, Option.bind_some, Option.some.injEq, Bool.false_eq_true, decide_false, eq_self, ↓reduceIte, Int.reduceNeg, exists_eq_left', ty3, h7, h8, hlt']
    have : l.findIdx? p = none := by
      rw [List.findIdx?_eq_none_iff]
      intro x hx
      obtain ⟨j, hj, rfl⟩ := List.getElem_of_mem hx
      exact hnot j hj (by omega)
    rw [this]
    exact .refl _

theorem icontains_ok (F : FuncId) (p : TIn → Bool) (l : List TIn) (hp : ∀ x ∈ l, VPure Try.prog F [iv x] (.b (p x))) (hx : ∀ x ∈ l, ivok x) :
    VPure Try.prog 21 [.sl 35 (l.map iv) .no, .fn F []] (.b (l.any p)) := by
  refine pure_of_body (tyOf_ok _) mixed Try.func21 rfl rfl (fun _ => 0) (by kernel_rfl) (zin ?_)
  dsimp only [Try.f21]

  simp (maxSteps := 1000000) (dsimp := false) (disch := omega) only [zwp_region_f, zwp_seq, znil_none, nilTest_t, nilOf, zops_nil, zops_none, zstep_eq, zput_some, zthen_some, zfn_fn, vop, veval, toVs, toV1, strip1, strip0, upd_at, initFr_at, hintOf, varg1, vargs1, varg, vargs, List.map_cons, List.map_nil, List.getElem?_cons_zero, List.getElem?_cons_succ, List.append_nil, Option.map_some, Option.getD_some, Bool.or_false, eq_self, reduceCtorEq, ↓reduceIte, Nat.reduceEqDiff]
  refine zcall_pure (iindex_ok F p l hp hx) (by first | exact fun h => Bool.noConfusion h | exact fun _ => rfl | exact fun _ => free_bv _ _ _) ?_
  simp (maxSteps := 1000000) (dsimp := false) (disch := omega) only [zwp_ret, znil_none, nilTest_t, nilOf, zops_nil, zops_none, zstep_eq, zput_some, zthen_some, vop, veval, toVs, toV1, vbinX, vbin, vint, BinOp.sh, strip1, strip0, strip, upd_at, vrecv, vret_r, vres, vresL, vseal, Option.map_some, Option.bind_some, Option.some.injEq, Bool.false_eq_true, eq_self, ↓reduceIte, Int.reduceNeg, exists_eq_left', ty3, ge_iff_le]
  cases hx : l.findIdx? p with
  | none =>
    rw [List.findIdx?_eq_none_iff] at hx
    have : l.any p = false := by simpa using hx
    rw [this]
    exact .refl _
  | some i =>
    rw [List.findIdx?_eq_some_iff_getElem] at hx
    obtain ⟨hi, hpi, -⟩ := hx
    have : l.any p = true := List.any_eq_true.2 ⟨l[i], List.getElem_mem hi, hpi⟩
    rw [this]
    have h0 : (0 : Int) ≤ (i : Int) := by omega
    simp only [h0, decide_true]
    exact .refl _

theorem oindex_ok (F : FuncId) (p : TOut → Bool) (l : List TOut) (hp : ∀ x ∈ l, VPure Try.prog F [ov x] (.b (p x))) (hx : ∀ x ∈ l, ovok x) :
    VPure Try.prog 42 [.sl 2 (l.map ov) .no, .fn F []] (.i .i64 (match l.findIdx? p with | some i => (i : Int) | none => -1)) := by
  refine VPure.lens (enters_of Try.func42 rfl rfl) fun hlen => ?_
  have hl : l.length ≤ 9223372036854775807 := by
    simpa [VLen, V.fn] using hlen
  clear hlen
  refine pure_of_body (tyOf_ok _) mixed Try.func42 rfl rfl (fun _ => 0) (by kernel_rfl) (zin ?_)
  dsimp only [Try.f42]

  simp (maxSteps := 1000000) (dsimp := false) (disch := omega) only [zwp_region_f, zwp_seq, zwp_block, znil_none, nilTest_t, nilOf, zops_nil, zops_none, zstep_eq, zput_some, zthen_some, vop, veval, toVs, toV1, vbuiltin, vlen, upd_at, initFr_at, List.map_cons, List.map_nil, List.getElem?_cons_zero, List.length_map, Option.map_some, Option.getD_some, eq_self, reduceCtorEq, ↓reduceIte, ty34, List.length_map]
  refine zloop l.length (fun k fr σ => fr 0 = .sl 2 (l.map ov) .no ∧ fr 1 = .fn F [] ∧ fr 7 = .i .i64 (l.length : Int) ∧ fr 8 = .i .i64 (k : Int) ∧ σ = ⟨fun _ => none, 0⟩ ∧ ∀ j (h : j < l.length), j < k → p l[j] = false) ⟨rfl, rfl, rfl, rfl, rfl, fun j h hj => by omega⟩ ?_
  rintro k fr σ hk ⟨h0, h1, h7, h8, rfl, hnot⟩
  by_cases hlt : k < l.length
  · have hlt' : (k : Int) < (l.length : Int) := by omega
    have hg : (l.map ov)[k]? = some (ov l[k]) := by simp [hlt]
    have hP := hp l[k] (List.getElem_mem hlt)
    obtain ⟨c, hc, hc1, hc2, hc3⟩ := hx l[k] (List.getElem_mem hlt)
    have hc4 : c.take 2 = c := List.take_of_length_le (by omega)
    have hc5 : stripL c = some c := hc3
    rw [hc] at hg hP

    simp (maxSteps := 1000000) (dsimp := false) (disch := omega) only [zwp_skip, zwp_region_f, zwp_seq, zwp_cond, zwp_block, znil_none, nilTest_t, nilOf, zops_nil, zops_none, zstep_eq, zput_some, zcond_t, zthen_some, zfn_fn, int_lt0, vop, veval, vload, vpart, vbinX, vbin, vint, BinOp.sh, viaddr, strip0, upd_at, hintOf, V.cells, TD.agg, varg1, varg, vargs, List.map_cons, List.map_nil, List.drop_zero, List.append_nil, Option.map_some, Bool.false_eq_true, Bool.or_false, decide_true, eq_self, reduceCtorEq, ↓reduceIte, Nat.reduceEqDiff, Nat.zero_add, Nat.le_refl, Int.toNat_natCast, ty3, ty34, ty60, h0, h1, h7, h8, hlt', hg, hc1, hc4, hc5]
    refine zcall_pure (hP) (by first | exact fun h => Bool.noConfusion h | exact fun _ => rfl | exact fun _ => free_bv _ _ _) ?_
    cases hpk : p l[k] with
    | true =>
      have hx : l.findIdx? p = some k := by
        rw [List.findIdx?_eq_some_iff_getElem]
        exact ⟨hlt, hpk, fun j hj => by simp [hnot j (by omega) hj]⟩
      rw [hx]
      simp (maxSteps := 1000000) (dsimp := false) (disch := omega) only [zwp_region_f, zwp_seq, zwp_cond, zwp_ret, znil_none, nilTest_t, nilOf, zops_nil, zops_none, zstep_eq, zput_some, zcond_t, zthen_some, vop, veval, strip1, strip0, strip, upd_at, vrecv, vret_r, vres, vresL, vseal, Option.map_some, Option.bind_some, Option.some.injEq, eq_self, ↓reduceIte, Nat.reduceEqDiff, exists_eq_left', Vle_self]
    | false =>
      simp (maxSteps := 1000000) (dsimp := false) (disch := omega) only [zwp_skip, zwp_region_f, zwp_cond, znil_none, nilTest_t, nilOf, zops_nil, zops_none, zstep_eq, zput_some, zcond_f, zthen_some, vop, veval, toVs, toV1, vbinX, vbin, vint, BinOp.sh, upd_at, vrecv, Option.map_some, V.i.injEq, true_and, Bool.false_eq_true, eq_self, reduceCtorEq, ↓reduceIte, Nat.reduceEqDiff, ty3, wrap_i64, h0, h1, h7, h8]
      refine ⟨hlt, by omega, fun j h hj => ?_⟩
      by_cases he : j = k
      · subst he; exact hpk
      · exact hnot j h (by omega)
  · have hlt' : ¬ (k : Int) < (l.length : Int) := by omega

    simp (maxSteps := 1000000) (dsimp := false) (disch := omega) only [zwp_region_f, zwp_seq, zwp_cond, zwp_exit, zwp_ret, znil_none, nilTest_t, nilOf, zops_nil, zops_none, zstep_eq, zput_some, zcond_f, zthen_some, vop, veval, toVs, toV1, vbinX, vbin, vint, BinOp.sh, strip1, strip0, strip, upd_at, vret_r, vres, vresL, vseal, Option.map_some, Option.bind_some, Option.some.injEq, Bool.false_eq_true, decide_false, eq_self, ↓reduceIte, Int.reduceNeg, exists_eq_left', ty3, h7, h8, hlt']
    have : l.findIdx? p = none := by
      rw [List.findIdx?_eq_none_iff]
      intro x hx
      obtain ⟨j, hj, rfl⟩ := List.getElem_of_mem hx
      exact hnot j hj (by omega)
    rw [this]
    exact .refl _

theorem ocontains_ok (F : FuncId) (p : TOut → Bool) (l : List TOut) (hp : ∀ x ∈ l, VPure Try.prog F [ov x] (.b (p x))) (hx : ∀ x ∈ l, ovok x) :
    VPure Try.prog 23 [.sl 2 (l.map ov) .no, .fn F []] (.b (l.any p)) := by
  refine pure_of_body (tyOf_ok _) mixed Try.func23 rfl rfl (fun _ => 0) (by kernel_rfl) (zin ?_)
  dsimp only [Try.f23]

  simp (maxSteps := 1000000) (dsimp := false) (disch := omega) only [zwp_region_f, zwp_seq, znil_none, nilTest_t, nilOf, zops_nil, zops_none, zstep_eq, zput_some, zthen_some, zfn_fn, vop, veval, toVs, toV1, strip1, strip0, upd_at, initFr_at, hintOf, varg1, vargs1, varg, vargs, List.map_cons, List.map_nil, List.getElem?_cons_zero, List.getElem?_cons_succ, List.append_nil, Option.map_some, Option.getD_some, Bool.or_false, eq_self, reduceCtorEq, ↓reduceIte, Nat.reduceEqDiff]
  refine zcall_pure (oindex_ok F p l hp hx) (by first | exact fun h => Bool.noConfusion h | exact fun _ => rfl | exact fun _ => free_bv _ _ _) ?_
  simp (maxSteps := 1000000) (dsimp := false) (disch := omega) only [zwp_ret, znil_none, nilTest_t, nilOf, zops_nil, zops_none, zstep_eq, zput_some, zthen_some, vop, veval, toVs, toV1, vbinX, vbin, vint, BinOp.sh, strip1, strip0, strip, upd_at, vrecv, vret_r, vres, vresL, vseal, Option.map_some, Option.bind_some, Option.some.injEq, Bool.false_eq_true, eq_self, ↓reduceIte, Int.reduceNeg, exists_eq_left', ty3, ge_iff_le]
  cases hx : l.findIdx? p with
  | none =>
    rw [List.findIdx?_eq_none_iff] at hx
    have : l.any p = false := by simpa using hx
    rw [this]
    exact .refl _
  | some i =>
    rw [List.findIdx?_eq_some_iff_getElem] at hx
    obtain ⟨hi, hpi, -⟩ := hx
    have : l.any p = true := List.any_eq_true.2 ⟨l[i], List.getElem_mem hi, hpi⟩
    rw [this]
    have h0 : (0 : Int) ≤ (i : Int) := by omega
    simp only [h0, decide_true]
    exact .refl _

theorem sane1_ok (x : TIn) (h : InOk x) : VPure Try.prog 22 [iv x] (.b (decide (10000 < x.2.2.1.length))) := by
  have h33 := icell_33 h.1
  have h35 := icell_length h.1
  have e : ∀ q, List.drop 33 (icell x) = q → q[0]? = some (.sl 1 (bv x.2.2.1) .no) := fun q hq => by rw [← hq, List.getElem?_drop]; exact h33
  have e2 : (decide ((10000 : Int) < (x.2.2.1.length : Int))) = decide (10000 < x.2.2.1.length) := by
    by_cases hh : 10000 < x.2.2.1.length
    · rw [decide_eq_true hh, decide_eq_true (by omega)]
    · rw [decide_eq_false hh, decide_eq_false (by omega)]
  refine pure_of_body (tyOf_ok _) mixed Try.func22 rfl rfl (fun _ => 0) (by kernel_rfl) (zin ?_)
  dsimp only [Try.f22]

  simp (maxSteps := 1000000) (dsimp := false) (disch := omega) only [zwp_region_f, zwp_seq, zwp_ret, znil_none, nilTest_t, nilOf, zops_nil, zops_none, zstep_eq, zput_some, zthen_some, vop, veval, toVs, toV1, vbox, vload, vpart, vbuiltin, vlen, vbinX, vbin, vint, BinOp.sh, vfaddr, strip1, strip0, strip, upd_at, initFr_at, St.new, V.cells, V.isVal, TD.agg, vret_r, vres, vresL, vseal, List.map_cons, List.map_nil, List.getElem?_cons_zero, List.getElem?_cons_succ, Option.map_some, Option.getD_some, Option.bind_some, Option.some.injEq, Bool.false_eq_true, eq_self, reduceCtorEq, ↓reduceIte, Nat.reduceEqDiff, Nat.zero_add, exists_eq_left', ty3, ty27, ty59, bv_length, gt_iff_lt, iv, h33]
  all_goals exact .of_eq (by rw [e2])
theorem sane2_ok (y : TOut) : VPure Try.prog 24 [ov y] (.b (decide (10000 < y.2.length))) := by
  have e2 : (decide ((10000 : Int) < (y.2.length : Int))) = decide (10000 < y.2.length) := by
    by_cases hh : 10000 < y.2.length
    · rw [decide_eq_true hh, decide_eq_true (by omega)]
    · rw [decide_eq_false hh, decide_eq_false (by omega)]
  refine pure_of_body (tyOf_ok _) mixed Try.func24 rfl rfl (fun _ => 0) (by kernel_rfl) (zin ?_)
  dsimp only [Try.f24]

  simp (maxSteps := 1000000) (dsimp := false) (disch := omega) only [zwp_region_f, zwp_seq, zwp_ret, znil_none, nilTest_t, nilOf, zops_nil, zops_none, zstep_eq, zput_some, zthen_some, vop, veval, toVs, toV1, vbox, vload, vpart, vbuiltin, vlen, vbinX, vbin, vint, BinOp.sh, vfaddr, strip1, strip0, strip, upd_at, initFr_at, St.new, V.cells, V.isVal, TD.agg, vret_r, vres, vresL, vseal, List.map_cons, List.map_nil, List.getElem?_cons_zero, List.getElem?_cons_succ, Option.map_some, Option.getD_some, Option.bind_some, Option.some.injEq, Bool.false_eq_true, eq_self, reduceCtorEq, ↓reduceIte, Nat.reduceEqDiff, Nat.zero_add, exists_eq_left', ty3, ty27, ty60, bv_length, gt_iff_lt, ov]
  all_goals exact .of_eq (by rw [e2])

theorem saneT_ok (t : TxT) (ht : TxOk t) : VPure Try.prog 11 [tv t] (.b (saneT t)) := by
  have h1 := icontains_ok 22 _ t.2.1 (fun x hx => sane1_ok x (ht.2.1 x hx)) (fun x hx => ivok_of (ht.2.1 x hx))
  have h2 := ocontains_ok 24 _ t.2.2.1 (fun x hx => sane2_ok x) (fun x hx => ovok_of x)
  unfold saneT
  generalize (t.2.1.any fun x => decide (10000 < x.2.2.1.length)) = q1 at *
  generalize (t.2.2.1.any fun y => decide (10000 < y.2.length)) = q2 at *
  refine pure_of_body (tyOf_ok _) mixed Try.func11 rfl rfl (fun _ => 0) (by kernel_rfl) (zin ?_)
  dsimp only [Try.f11]
  by_cases a1 : t.2.1.length < 1
  · have a1' : (t.2.1.length : Int) < 1 := by omega

    simp (maxSteps := 1000000) (dsimp := false) (disch := omega) only [zwp_region_f, zwp_seq, zwp_cond, zwp_ret, znil_none, nilTest_t, nilOf, zops_nil, zops_none, zops_some, zstep_eq, zput_some, zcond_t, zwant_f, zthen_some, wantedV, vop, veval, toVs, toV1, vbox, vload, vpart, vbuiltin, vlen, vbinX, vbin, vint, BinOp.sh, vfaddr, strip1, strip0, strip, upd_at, initFr_at, St.new, V.cells, V.isVal, TD.agg, vret_r, vres, vresL, vseal, List.map_cons, List.map_nil, List.getElem?_cons_zero, List.getElem?_cons_succ, List.length_map, List.getElem?_toArray, Option.map_some, Option.getD_some, Option.bind_some, Option.some.injEq, Bool.false_eq_true, Bool.not_true, decide_true, eq_self, reduceCtorEq, ↓reduceIte, Nat.reduceEqDiff, Nat.zero_add, beq_false, exists_eq_left', ty3, ty33, ty36, tv, List.length_map, a1']
    all_goals exact .of_eq (by simp; omega)
  · have a1' : ¬ (t.2.1.length : Int) < 1 := by omega
    by_cases a2 : 1000 < t.2.1.length
    · have a2' : (1000 : Int) < (t.2.1.length : Int) := by omega

      simp (maxSteps := 1000000) (dsimp := false) (disch := omega) only [zwp_region_f, zwp_seq, zwp_cond, zwp_ret, znil_none, nilTest_t, nilOf, zops_nil, zops_none, zops_some, zstep_eq, zput_some, zcond_t, zwant_t, zwant_f, zthen_some, wantedV, vop, veval, toVs, toV1, vbox, vload, vpart, vbuiltin, vlen, vbinX, vbin, vint, BinOp.sh, vfaddr, strip1, strip0, strip, upd_at, initFr_at, St.new, V.cells, V.isVal, TD.agg, vret_r, vres, vresL, vseal, List.map_cons, List.map_nil, List.getElem?_cons_zero, List.getElem?_cons_succ, List.length_map, List.getElem?_toArray, Option.map_some, Option.getD_some, Option.bind_some, Option.some.injEq, Bool.false_eq_true, Bool.not_true, decide_true, decide_false, beq_self_eq_true, eq_self, reduceCtorEq, ↓reduceIte, Nat.reduceEqDiff, Nat.zero_add, beq_false, exists_eq_left', ty3, ty33, ty36, gt_iff_lt, tv, List.length_map, a1', a2']
      all_goals exact .of_eq (by simp; omega)
    · have a2' : ¬ (1000 : Int) < (t.2.1.length : Int) := by omega
      by_cases a3 : 1000 < t.2.2.1.length
      · have a3' : (1000 : Int) < (t.2.2.1.length : Int) := by omega

        simp (maxSteps := 1000000) (dsimp := false) (disch := omega) only [zwp_region_f, zwp_seq, zwp_cond, zwp_ret, znil_none, nilTest_t, nilOf, zops_nil, zops_none, zops_some, zstep_eq, zput_some, zcond_t, zwant_t, zthen_some, wantedV, vop, veval, toVs, toV1, vbox, vload, vpart, vbuiltin, vlen, vbinX, vbin, vint, BinOp.sh, vfaddr, strip1, strip0, strip, upd_at, initFr_at, St.new, V.cells, V.isVal, TD.agg, vret_r, vres, vresL, vseal, List.map_cons, List.map_nil, List.getElem?_cons_zero, List.getElem?_cons_succ, List.length_map, List.getElem?_toArray, Option.map_some, Option.getD_some, Option.bind_some, Option.some.injEq, Bool.false_eq_true, decide_true, decide_false, beq_self_eq_true, eq_self, reduceCtorEq, ↓reduceIte, Nat.reduceEqDiff, Nat.zero_add, exists_eq_left', ty3, ty33, ty34, ty36, gt_iff_lt, tv, List.length_map, a1', a2', a3']
        all_goals exact .of_eq (by simp; omega)
      · have a3' : ¬ (1000 : Int) < (t.2.2.1.length : Int) := by omega
        have hd : decide (1 ≤ t.2.1.length ∧ t.2.1.length ≤ 1000 ∧ t.2.2.1.length ≤ 1000) = true := decide_eq_true ⟨by omega, by omega, by omega⟩
        rw [hd]

        simp (maxSteps := 1000000) (dsimp := false) (disch := omega) only [zwp_skip, zwp_region_f, zwp_seq, zwp_cond, znil_none, nilTest_t, nilOf, zops_nil, zops_none, zops_some, zstep_eq, zput_some, zcond_f, zwant_t, zthen_some, zfn_fn, wantedV, vop, veval, toVs, toV1, vbox, vload, vpart, vbuiltin, vlen, vbinX, vbin, vint, BinOp.sh, vfaddr, strip1, strip0, upd_at, initFr_at, St.new, hintOf, V.cells, V.isVal, TD.agg, varg1, vargs1, varg, vargs, List.map_cons, List.map_nil, List.getElem?_cons_zero, List.getElem?_cons_succ, List.append_nil, List.length_map, List.getElem?_toArray, Option.map_some, Option.getD_some, Bool.false_eq_true, Bool.or_false, decide_false, beq_self_eq_true, eq_self, reduceCtorEq, ↓reduceIte, Nat.reduceEqDiff, Nat.zero_add, ty3, ty33, ty34, ty36, gt_iff_lt, tv, List.length_map, a1', a2', a3']
        refine zcall_pure (h1) (by first | exact fun h => Bool.noConfusion h | exact fun _ => rfl | exact fun _ => free_bv _ _ _) ?_
        cases q1 with
        | true => simp (maxSteps := 1000000) (dsimp := false) (disch := omega) only [zwp_ret, znil_none, nilTest_t, nilOf, zops_nil, zops_none, zops_some, zstep_eq, zput_some, zwant_f, zthen_some, wantedV, vop, veval, toVs, toV1, vun, strip1, strip0, strip, upd_at, vrecv, vret_r, vres, vresL, vseal, List.getElem?_cons_zero, List.getElem?_cons_succ, List.getElem?_toArray, Option.map_some, Option.bind_some, Option.some.injEq, Bool.not_true, Bool.false_and, Bool.and_false, eq_self, ↓reduceIte, Nat.reduceEqDiff, beq_true, exists_eq_left', Vle_self]
        | false =>
          simp (maxSteps := 1000000) (dsimp := false) (disch := omega) only [znil_none, nilTest_t, nilOf, zops_none, zops_some, zstep_eq, zput_some, zwant_t, zthen_some, zfn_fn, wantedV, vop, veval, vload, vpart, vun, vfaddr, strip1, strip0, upd_at, vrecv, hintOf, TD.agg, varg1, vargs1, varg, vargs, List.map_cons, List.map_nil, List.getElem?_cons_zero, List.getElem?_cons_succ, List.append_nil, List.getElem?_toArray, Option.map_some, Bool.false_eq_true, Bool.not_false, Bool.or_false, beq_self_eq_true, eq_self, reduceCtorEq, ↓reduceIte, Nat.reduceEqDiff, Nat.zero_add, ty34, ty36]
          refine zcall_pure (h2) (by first | exact fun h => Bool.noConfusion h | exact fun _ => rfl | exact fun _ => free_bv _ _ _) ?_
          cases q2 with
          | true => simp (maxSteps := 1000000) (dsimp := false) (disch := omega) only [zwp_ret, znil_none, nilTest_t, nilOf, zops_nil, zops_none, zops_some, zstep_eq, zput_some, zwant_t, zthen_some, wantedV, vop, veval, vun, strip1, strip0, strip, upd_at, vrecv, vret_r, vres, vresL, vseal, List.getElem?_cons_zero, List.getElem?_cons_succ, List.getElem?_toArray, Option.map_some, Option.bind_some, Option.some.injEq, Bool.not_true, Bool.not_false, Bool.and_true, Bool.and_false, beq_self_eq_true, eq_self, ↓reduceIte, Nat.reduceEqDiff, exists_eq_left', Vle_self]
          | false => simp (maxSteps := 1000000) (dsimp := false) (disch := omega) only [zwp_ret, znil_none, nilTest_t, nilOf, zops_nil, zops_none, zops_some, zstep_eq, zput_some, zwant_t, zthen_some, wantedV, vop, veval, vun, strip1, strip0, strip, upd_at, vrecv, vret_r, vres, vresL, vseal, List.getElem?_cons_zero, List.getElem?_cons_succ, List.getElem?_toArray, Option.map_some, Option.bind_some, Option.some.injEq, Bool.not_false, Bool.and_true, beq_self_eq_true, eq_self, ↓reduceIte, Nat.reduceEqDiff, exists_eq_left', Vle_self]
end Go.Proofs.Ytkcapmodgkficaa
