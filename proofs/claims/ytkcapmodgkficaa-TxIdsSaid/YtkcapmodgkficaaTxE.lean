/- Transactions: the laws' readings of their arguments; TxOnce, TxBack. -/
import Derived.Test.YtkcapmodgkficaaTxC
import Derived.Test.YtkcapmodgkficaaV19
namespace Go.Proofs.Ytkcapmodgkficaa
open Go.Vx Go.Fl
set_option maxRecDepth 100000
set_option maxHeartbeats 4000000
set_option linter.unusedSimpArgs false
set_option linter.unusedVariables false

theorem txOnce_v (u0 : V) (H0 : HasT false [.sl false [.int .u8]] u0) : VPure Try.prog 4 [u0] (.b true) := by
  obtain ⟨l, rfl, -⟩ := H0.one.bytes
  exact once_ok l

theorem bytes_of {vs : List V} (h : ∀ e ∈ vs, HasC (.int .u8) e) : ∃ l : List UInt8, vs = bv l := by
  obtain ⟨l, hl⟩ := list_of (enc := fun c : UInt8 => V.i .u8 (c.toNat : Int)) fun e he => (h e he).u8
  exact ⟨l, hl⟩
theorem in_of {u : V} (H : HasT true (List.replicate 32 (.int .u8) ++ [.int .u32] ++ [.sl false [.int .u8]] ++ [.int .u32]) u) : ∃ x : TIn, u = iv x ∧ InOk x := by
  obtain ⟨vs, hl, h, ha, -⟩ := H
  have := ha rfl
  subst this
  have hl' : vs.length = 35 := hl
  obtain ⟨hsh, hh⟩ := bytes_of (vs := vs.take 32) fun e he => by
    obtain ⟨j, hj⟩ := List.mem_iff_getElem?.1 he
    rw [List.getElem?_take] at hj
    split at hj
    · rename_i hlt
      refine h j _ _ ?_ hj
      match j, hlt with
      | 0, _ | 1, _ | 2, _ | 3, _ | 4, _ | 5, _ | 6, _ | 7, _ | 8, _ | 9, _ | 10, _ | 11, _ | 12, _ | 13, _ | 14, _ | 15, _ | 16, _ | 17, _ | 18, _ | 19, _ | 20, _ | 21, _ | 22, _ | 23, _ | 24, _ | 25, _ | 26, _ | 27, _ | 28, _ | 29, _ | 30, _ | 31, _ => rfl
      | j + 32, hh => exact absurd hh (by omega)
    · cases hj
  have hd : vs = bv hsh ++ vs.drop 32 := by rw [← hh, List.take_append_drop]
  have hlen : (bv hsh).length = 32 := by rw [← hh, List.length_take]; omega
  have hl3 : (vs.drop 32).length = 3 := by rw [List.length_drop]; omega
  have g : ∀ k, vs[32 + k]? = (vs.drop 32)[k]? := fun k => by rw [List.getElem?_drop]
  match hv : vs.drop 32, hl3 with
  | [a, b, c], _ =>
    rw [hv] at g hd
    obtain ⟨i, rfl, i0, i1⟩ := (h 32 _ a rfl (g 0)).u32
    obtain ⟨l, rfl, -⟩ := (h 33 _ b rfl (g 1)).bytes
    obtain ⟨q, rfl, q0, q1⟩ := (h 34 _ c rfl (g 2)).u32
    refine ⟨(hsh, i.toNat, l, q.toNat), ?_, by simpa using hlen, by simp only; omega, by simp only; omega⟩
    rw [hd, iv, icell]
    simp only
    rw [Int.toNat_of_nonneg i0, Int.toNat_of_nonneg q0]
theorem out_of {u : V} (H : HasT true [.int .u64, .sl false [.int .u8]] u) : ∃ y : TOut, u = ov y ∧ OutOk y := by
  obtain ⟨vs, hl, h, ha, -⟩ := H
  have := ha rfl
  subst this
  match vs, hl with
  | [a, b], _ =>
    obtain ⟨n, rfl, n0, n1⟩ := (h 0 _ _ rfl rfl).u64
    obtain ⟨l, rfl, -⟩ := (h 1 _ _ rfl rfl).bytes
    refine ⟨(n.toNat, l), ?_, by simp only [OutOk]; omega⟩
    simp only [ov]
    rw [Int.toNat_of_nonneg n0]
theorem tx_of {u : V} (H : HasT true [.int .u32, .sl true (List.replicate 32 (.int .u8) ++ [.int .u32] ++ [.sl false [.int .u8]] ++ [.int .u32]), .sl true [.int .u64, .sl false [.int .u8]], .int .u32] u) : ∃ t : TxT, u = tv t ∧ TxOk t := by
  obtain ⟨vs, hl, h, ha, -⟩ := H
  have := ha rfl
  subst this
  match vs, hl with
  | [a, b, c, d], _ =>
    obtain ⟨n, rfl, n0, n1⟩ := (h 0 _ _ rfl rfl).u32
    obtain ⟨es, rfl, -, he⟩ := (h 1 _ _ rfl rfl).sl'
    obtain ⟨fs, rfl, -, hf⟩ := (h 2 _ _ rfl rfl).sl'
    obtain ⟨m, rfl, m0, m1⟩ := (h 3 _ _ rfl rfl).u32
    obtain ⟨ins, rfl, hi⟩ := list_of' (enc := iv) (Q := InOk) fun e h => in_of (he e h)
    obtain ⟨outs, rfl, ho⟩ := list_of' (enc := ov) (Q := OutOk) fun e h => out_of (hf e h)
    refine ⟨(n.toNat, ins, outs, m.toNat), ?_, by simp only; omega, hi, ho, by simp only; omega⟩
    simp only [tv]
    rw [Int.toNat_of_nonneg n0, Int.toNat_of_nonneg m0]
    rfl

theorem and_low (k : Int) : ∃ q : Nat, q ≤ 65535 ∧ IntKind.i64.wrap ((BitVec.ofInt IntKind.i64.bits k &&& BitVec.ofInt IntKind.i64.bits 65535).toNat : Int) = (q : Int) := by
  have h : (BitVec.ofInt IntKind.i64.bits k &&& BitVec.ofInt IntKind.i64.bits 65535).toNat ≤ 65535 := by
    rw [BitVec.toNat_and]
    exact Nat.le_trans Nat.and_le_right (by decide)
  exact ⟨_, h, wrap_i64 (by omega) (by omega)⟩
theorem txB_len {t : TxT} (ht : TxOk t) (hs : saneT t = true) (h1 : t.2.1.length ≤ 20) (h2 : t.2.2.1.length ≤ 20) : 10 ≤ (txB t).length ∧ (txB t).length ≤ 1000000 := by
  obtain ⟨-, -, -, s1, s2⟩ := saneT_facts hs
  obtain ⟨-, hi, -, -⟩ := ht
  have a1 := inB_len fun x hx => ⟨(hi x hx).1, s1 x hx⟩
  have a2 := outB_len s2
  have a3 := putN_le9 t.2.1.length
  have a4 := putN_le9 t.2.2.1.length
  have a5 : 1 ≤ (putN t.2.1.length).length := by rw [putN_length]; have := sizeN_cases t.2.1.length; omega
  have a6 : 1 ≤ (putN t.2.2.1.length).length := by rw [putN_length]; have := sizeN_cases t.2.2.1.length; omega
  unfold txB
  simp only [List.length_append, lowB_length]
  omega
theorem back_ok (t : TxT) (ht : TxOk t) (more : List UInt8) (k : Int) : VPure Try.prog 3 [tv t, .sl 1 (bv more) .no, .i .i64 k] (.b true) := by
  have hS := saneT_ok t ht
  have hP := fun h => tput_ok t ht h
  have hN := fun h => tput_no t ht h
  have hG := fun h more => getT_put t ht h more
  have hSh := fun h j hj => getT_short t ht h j hj
  have hfl := @saneT_facts t
  have hv := ht
  obtain ⟨ver, ins, outs, lock⟩ := t
  obtain ⟨hver, hin, hout, hlock⟩ := ht
  simp only at hver hin hout hlock
  have F := few_ok ver lock ins outs fun x hx => (hin x hx).1
  have hff : fewT (ver, ins, outs, lock) = true → ins.length ≤ 20 ∧ outs.length ≤ 20 := by
    simp only [fewT, Bool.and_eq_true, decide_eq_true_eq]; omega
  refine pure_of_body (tyOf_ok _) mixed Try.func3 rfl rfl (fun _ => 0) (by kernel_rfl) (zin ?_)
  dsimp only [Try.f3]

  simp (maxSteps := 1000000) (dsimp := false) (disch := omega) only [zwp_region_f, zwp_seq, znil_none, nilTest_t, nilOf, zops_nil, zops_none, zstep_eq, zput_some, zthen_some, zfn_fn, vop, veval, toVs, toV1, vbox, initFr_at, St.new, hintOf, V.cells, V.isVal, vargs, List.map_nil, List.getElem?_cons_zero, List.append_nil, Option.getD_some, eq_self, ↓reduceIte, Nat.zero_add, tv]
  refine zcall_pure (awake_ok) (by first | exact fun h => Bool.noConfusion h | exact fun _ => rfl | exact fun _ => free_bv _ _ _) ?_
  simp (maxSteps := 1000000) (dsimp := false) (disch := omega) only [zwp_region_f, zwp_seq, znil_none, nilTest_t, nilOf, zops_nil, zops_none, zstep_eq, zput_some, zthen_some, zfn_fn, vop, veval, vload, vpart, strip1, stripL, strip0, upd_at, vrecv, hintOf, TD.agg, varg1, varg, vargs, List.map_cons, List.map_nil, List.take_succ_cons, List.take_nil, List.drop_zero, List.append_nil, List.length_cons, List.length_nil, Option.map_some, Bool.or_false, eq_self, ↓reduceIte, Nat.reduceEqDiff, Nat.reduceAdd, Nat.zero_add, Nat.le_refl, ty26]
  refine zcall_pure (F) (by first | exact fun h => Bool.noConfusion h | exact fun _ => rfl | exact fun _ => free_bv _ _ _) ?_
  cases hf : fewT (ver, ins, outs, lock) with
  | false => simp (maxSteps := 1000000) (dsimp := false) (disch := omega) only [zwp_region_f, zwp_seq, zwp_cond, zwp_ret, znil_none, nilTest_t, nilOf, zops_nil, zops_none, zops_some, zstep_eq, zput_some, zcond_t, zwant_f, zthen_some, wantedV, vop, veval, toVs, toV1, vun, strip1, strip0, strip, upd_at, vrecv, vret_r, vres, vresL, vseal, List.getElem?_cons_zero, List.getElem?_cons_succ, List.getElem?_toArray, Option.map_some, Option.bind_some, Option.some.injEq, Bool.not_true, Bool.not_false, eq_self, ↓reduceIte, Nat.reduceEqDiff, beq_false, exists_eq_left', Vle_self]
  | true =>
    obtain ⟨l1, l2⟩ := hff hf
    have O := ours_ok ver lock ins outs (fun x hx => (hin x hx).1) (by omega) (by omega)
    have T := theirs_ok ver lock ins outs (fun x hx => (hin x hx).1) (by omega) (by omega)
    have Sm := same_ok ver lock ins outs (fun x hx => (hin x hx).1) (by omega) (by omega)
    by_cases hm : more.length ≤ 500
    · have hm' : ¬ (500 : Int) < (more.length : Int) := by omega
      cases hs : saneT (ver, ins, outs, lock) with
      | false =>
        rw [hs] at hS

        simp (maxSteps := 1000000) (dsimp := false) (disch := omega) only [zwp_skip, zwp_region_f, zwp_seq, zwp_cond, znil_none, nilTest_t, nilOf, zops_nil, zops_none, zops_some, zstep_eq, zput_some, zcond_f, zwant_t, zthen_some, zfn_fn, wantedV, vop, veval, toVs, toV1, vload, vpart, vbuiltin, vlen, vbinX, vbin, vint, BinOp.sh, vun, strip1, stripL, strip0, upd_at, initFr_at, vrecv, hintOf, TD.agg, varg1, varg, vargs, List.map_cons, List.map_nil, List.getElem?_cons_zero, List.getElem?_cons_succ, List.take_succ_cons, List.take_nil, List.drop_zero, List.append_nil, List.length_cons, List.length_nil, List.getElem?_toArray, Option.map_some, Option.getD_some, Bool.false_eq_true, Bool.not_true, Bool.or_false, decide_false, beq_self_eq_true, eq_self, ↓reduceIte, Nat.reduceEqDiff, Nat.reduceAdd, Nat.zero_add, Nat.le_refl, ty3, ty26, ty27, bv_length, gt_iff_lt, bv_length, hm']
        refine zcall_pure (O) (by first | exact fun h => Bool.noConfusion h | exact fun _ => rfl | exact fun _ => free_bv _ _ _) ?_
        simp (maxSteps := 1000000) (dsimp := false) (disch := omega) only [znil_none, nilTest_t, nilOf, zops_none, zstep_eq, zput_some, zfn_fn, veval, strip1, stripL, strip0, upd_at, vrecv, hintOf, varg1, varg, vargs, List.map_cons, List.map_nil, List.append_nil, Option.map_some, Bool.or_false, eq_self, ↓reduceIte, tv]
        refine zcall_pure (hN hs) (by first | exact fun h => Bool.noConfusion h | exact fun _ => rfl | exact fun _ => free_bv _ _ _) ?_
        simp (maxSteps := 1000000) (dsimp := false) (disch := omega) only [zwp_region_f, zwp_seq, znil_none, nilTest_t, nilOf, zops_nil, zops_none, zstep_eq, zput_some, zthen_some, zfn_fn, vop, veval, vload, vpart, vext, strip1, stripL, strip0, upd_at, vrecv, hintOf, TD.agg, varg1, varg, vargs, List.map_cons, List.map_nil, List.getElem?_cons_zero, List.getElem?_cons_succ, List.take_succ_cons, List.take_nil, List.drop_zero, List.append_nil, List.length_cons, List.length_nil, Option.map_some, Bool.or_false, eq_self, ↓reduceIte, Nat.reduceEqDiff, Nat.reduceAdd, Nat.zero_add, Nat.le_refl, ty26]
        refine zcall_pure (O) (by first | exact fun h => Bool.noConfusion h | exact fun _ => rfl | exact fun _ => free_bv _ _ _) ?_
        simp (maxSteps := 1000000) (dsimp := false) (disch := omega) only [znil_none, nilTest_t, nilOf, zops_none, zstep_eq, zput_some, zfn_fn, veval, strip1, stripL, strip0, upd_at, vrecv, hintOf, varg1, varg, vargs, List.map_cons, List.map_nil, List.append_nil, Option.map_some, Bool.or_false, eq_self, ↓reduceIte, tv]
        refine zcall_pure (hS) (by first | exact fun h => Bool.noConfusion h | exact fun _ => rfl | exact fun _ => free_bv _ _ _) ?_
        simp (maxSteps := 1000000) (dsimp := false) (disch := omega) only [zwp_region_f, zwp_seq, zwp_cond, zwp_ret, znil_none, nilTest_t, nilOf, zops_nil, zops_none, zops_some, zstep_eq, zput_some, zcond_t, zwant_t, zthen_some, wantedV, vop, veval, toVs, toV1, vbuiltin, vlen, vbinX, vbin, vint, BinOp.sh, vun, strip1, strip0, strip, upd_at, vrecv, vret_r, vres, vresL, vseal, List.map_cons, List.map_nil, List.getElem?_cons_zero, List.getElem?_cons_succ, List.length_nil, List.getElem?_toArray, Option.map_some, Option.bind_some, Option.some.injEq, Bool.false_eq_true, Bool.not_false, beq_self_eq_true, eq_self, ↓reduceIte, Nat.reduceEqDiff, exists_eq_left', Vle_self, ty3, ty27, ty30, Int.cast_ofNat_Int]
      | true =>
        rw [hs] at hS
        have hP := hP hs
        have hG := hG hs
        have hSh := hSh hs
        obtain ⟨hl10, hlb⟩ := txB_len hv hs l1 l2
        generalize txB (ver, ins, outs, lock) = B at *
        have G1 := tget_ok (B ++ more) (by simp; omega)
        rw [hG] at G1
        have happ : bv (B ++ more) = bv B ++ bv more := by simp [bv]
        rw [happ] at G1
        have hl10' : ¬ (B.length : Int) < 10 := by omega
        obtain ⟨q, hq, hqe⟩ := and_low k
        obtain ⟨r, hr⟩ : ∃ r, r = q % B.length := ⟨_, rfl⟩
        have hrl : r < B.length := by subst hr; exact Nat.mod_lt _ (by omega)
        have hre : (q : Int) % (B.length : Int) = (r : Int) := by omega
        have htk : List.take r (bv B) = bv (B.take r) := by simp [bv]
        have G2 := tget_ok (B.take r) (by simp; omega)
        have hsh := hSh r hrl
        rw [getT_err (by omega), hsh] at G2
        have hrl' : r ≤ B.length := by omega

        simp (maxSteps := 1000000) (dsimp := false) (disch := omega) only [zwp_skip, zwp_region_f, zwp_seq, zwp_cond, znil_none, nilTest_t, nilOf, zops_nil, zops_none, zops_some, zstep_eq, zput_some, zcond_f, zwant_t, zthen_some, zfn_fn, wantedV, vop, veval, toVs, toV1, vload, vpart, vbuiltin, vlen, vbinX, vbin, vint, BinOp.sh, vun, strip1, stripL, strip0, upd_at, initFr_at, vrecv, hintOf, TD.agg, varg1, varg, vargs, List.map_cons, List.map_nil, List.getElem?_cons_zero, List.getElem?_cons_succ, List.take_succ_cons, List.take_nil, List.drop_zero, List.append_nil, List.length_cons, List.length_nil, List.getElem?_toArray, Option.map_some, Option.getD_some, Bool.false_eq_true, Bool.not_true, Bool.or_false, decide_false, beq_self_eq_true, eq_self, ↓reduceIte, Nat.reduceEqDiff, Nat.reduceAdd, Nat.zero_add, Nat.le_refl, ty3, ty26, ty27, bv_length, gt_iff_lt, bv_length, hm']
        refine zcall_pure (O) (by first | exact fun h => Bool.noConfusion h | exact fun _ => rfl | exact fun _ => free_bv _ _ _) ?_
        simp (maxSteps := 1000000) (dsimp := false) (disch := omega) only [znil_none, nilTest_t, nilOf, zops_none, zstep_eq, zput_some, zfn_fn, veval, strip1, stripL, strip0, upd_at, vrecv, hintOf, varg1, varg, vargs, List.map_cons, List.map_nil, List.append_nil, Option.map_some, Bool.or_false, eq_self, ↓reduceIte, tv]
        refine zcall_pure (hP) (by first | exact fun h => Bool.noConfusion h | exact fun _ => rfl | exact fun _ => free_bv _ _ _) ?_
        simp (maxSteps := 1000000) (dsimp := false) (disch := omega) only [zwp_region_f, zwp_seq, znil_none, nilTest_t, nilOf, zops_nil, zops_none, zstep_eq, zput_some, zthen_some, zfn_fn, vop, veval, vload, vpart, vext, strip1, stripL, strip0, upd_at, vrecv, hintOf, TD.agg, varg1, varg, vargs, List.map_cons, List.map_nil, List.getElem?_cons_zero, List.getElem?_cons_succ, List.take_succ_cons, List.take_nil, List.drop_zero, List.append_nil, List.length_cons, List.length_nil, Option.map_some, Bool.or_false, eq_self, ↓reduceIte, Nat.reduceEqDiff, Nat.reduceAdd, Nat.zero_add, Nat.le_refl, ty26]
        refine zcall_pure (O) (by first | exact fun h => Bool.noConfusion h | exact fun _ => rfl | exact fun _ => free_bv _ _ _) ?_
        simp (maxSteps := 1000000) (dsimp := false) (disch := omega) only [znil_none, nilTest_t, nilOf, zops_none, zstep_eq, zput_some, zfn_fn, veval, strip1, stripL, strip0, upd_at, vrecv, hintOf, varg1, varg, vargs, List.map_cons, List.map_nil, List.append_nil, Option.map_some, Bool.or_false, eq_self, ↓reduceIte, tv]
        refine zcall_pure (hS) (by first | exact fun h => Bool.noConfusion h | exact fun _ => rfl | exact fun _ => free_bv _ _ _) ?_
        simp (maxSteps := 1000000) (dsimp := false) (disch := omega) only [zwp_skip, zwp_region_f, zwp_seq, zwp_cond, znil_none, nilTest_t, nilOf, zops_nil, zops_none, zops_some, zstep_eq, zput_some, zcond_f, zwant_t, zthen_some, zfn_fn, wantedV, vop, veval, toVs, toV1, vblit, vlits, zeroElem, vbuiltin, vlen, vbinX, vbin, vint, BinOp.sh, vun, vapp, vsrc, vgrow, strip1, strip0, upd_at, initFr_at, St.tok, vrecv, hintOf, TD.agg, varg1, varg, vargs, List.map_cons, List.map_nil, List.getElem?_cons_zero, List.getElem?_cons_succ, List.nil_append, List.append_nil, List.length_nil, List.isEmpty_nil, List.getElem?_toArray, Option.map_some, Option.getD_some, Option.any_some, true_and, true_or, and_self, or_self, Bool.false_eq_true, Bool.not_true, Bool.and_true, Bool.and_false, Bool.or_false, decide_true, decide_false, beq_self_eq_true, eq_self, reduceCtorEq, ↓reduceIte, Nat.reduceLT, Nat.reduceEqDiff, Nat.reduceAdd, Nat.reduceBEq, Nat.zero_add, Nat.zero_le, Nat.mul_one, ty3, ty5, ty27, ty30, List.replicate_zero, bv_length, bne, if_pos, bv_length, hl10']
        refine zcall_pure (G1) (by first | exact fun h => Bool.noConfusion h | exact fun _ => rfl | exact fun _ => free_bv _ _ _) ?_
        simp (maxSteps := 1000000) (dsimp := false) (disch := omega) only [zwp_region_f, zwp_seq, znil_none, nilTest_t, nilOf, zops_nil, zops_none, zstep_eq, zput_some, zput_none, zthen_some, zfn_fn, int_lt0, vop, veval, toVs, toV1, valloc, vstore, vbuiltin, vlen, vbinX, vbin, vint, BinOp.sh, vslice, vbnd, vext, strip1, strip0, upd_at, initFr_at, St.new, St.put, vrecv, hintOf, V.cells, V.isVal, varg1, varg, vargs, List.map_cons, List.map_nil, List.getElem?_cons_zero, List.getElem?_cons_succ, List.take_zero, List.drop_succ_cons, List.drop_zero, List.drop_nil, List.nil_append, List.append_nil, List.length_cons, List.length_nil, Option.map_some, Option.map_none, Option.getD_some, Option.isSome_some, Option.isSome_none, and_false, false_and, true_or, and_self, or_self, Bool.false_eq_true, Bool.or_false, ite_self, false_implies, eq_self, reduceCtorEq, ↓reduceIte, Nat.reduceEqDiff, Nat.reduceAdd, Nat.zero_add, Nat.sub_zero, Nat.zero_le, Nat.le_refl, Int.toNat_natCast, ty3, ty5, ty27, ty36, Int.cast_ofNat_Int, bv_length, rem_pos, if_neg, tv, bv_length, hqe, hre, htk, hrl']
        refine zcall_pure (G2) (by first | exact fun h => Bool.noConfusion h | exact fun _ => rfl | exact fun _ => free_bv _ _ _) ?_
        simp (maxSteps := 1000000) (dsimp := false) (disch := omega) only [zwp_region_t, zwp_seq, znil_none, nilTest_f, nilTest_t, nilOf, zops_nil, zops_none, zops_some, zstep_eq, zput_some, zput_none, zwant_t, zthen_some, zfn_fn, wantedV, vop, veval, toVs, toV1, valloc, vstore, vload, vpart, vbuiltin, vlen, vbinX, vbin, vint, BinOp.sh, vext, strip1, stripL, strip0, upd_at, St.new, St.put, vrecv, hintOf, V.cells, V.isVal, TD.agg, varg1, varg, vargs, List.map_cons, List.map_nil, List.getElem?_cons_zero, List.getElem?_cons_succ, List.take_succ_cons, List.take_zero, List.take_nil, List.drop_succ_cons, List.drop_zero, List.drop_nil, List.nil_append, List.append_nil, List.length_cons, List.length_nil, List.getElem?_toArray, Option.map_some, and_self, Bool.false_eq_true, Bool.or_false, beq_self_eq_true, eq_self, ↓reduceIte, Nat.reduceEqDiff, Nat.reduceAdd, Nat.zero_add, Nat.le_refl, ty3, ty27, ty30, ty36, Int.cast_ofNat_Int, bv_length, tv, bv_length]
        refine zcall_pure (T) (by first | exact fun h => Bool.noConfusion h | exact fun _ => rfl | exact fun _ => free_bv _ _ _) ?_
        simp (maxSteps := 1000000) (dsimp := false) (disch := omega) only [znil_none, nilTest_f, zops_some, zstep_eq, zput_some, zwant_t, zthen_some, zfn_fn, wantedV, vop, veval, vload, vpart, strip1, stripL, strip0, upd_at, vrecv, hintOf, TD.agg, varg1, varg, vargs, List.map_cons, List.map_nil, List.getElem?_cons_zero, List.getElem?_cons_succ, List.take_succ_cons, List.take_nil, List.drop_zero, List.append_nil, List.length_cons, List.length_nil, List.getElem?_toArray, Option.map_some, Bool.or_false, beq_self_eq_true, eq_self, reduceCtorEq, ↓reduceIte, Nat.reduceEqDiff, Nat.reduceAdd, Nat.zero_add, Nat.le_refl, ty26, tv]
        refine zcall_pure (Sm) (by first | exact fun h => Bool.noConfusion h | exact fun _ => rfl | exact fun _ => free_bv _ _ _) ?_
        simp (maxSteps := 1000000) (dsimp := false) (disch := omega) only [zlate_0, zwp_ret, znil_none, nilTest_f, zops_nil, zops_none, zops_some, zstep_eq, zput_some, zwant_t, zthen_some, wantedV, vop, veval, toVs, toV1, vbinX, vbin, vint, BinOp.sh, strip1, strip0, strip, upd_at, vrecv, vret_r, vres, vresL, vseal, List.getElem?_cons_zero, List.getElem?_cons_succ, List.getElem?_toArray, Option.map_some, Option.bind_some, Option.some.injEq, Bool.false_eq_true, beq_self_eq_true, eq_self, ↓reduceIte, Nat.reduceEqDiff, exists_eq_left', Vle_self, ty30]
    · have hm' : (500 : Int) < (more.length : Int) := by omega

      simp (maxSteps := 1000000) (dsimp := false) (disch := omega) only [zwp_region_f, zwp_seq, zwp_cond, zwp_ret, znil_none, nilTest_t, nilOf, zops_nil, zops_none, zops_some, zstep_eq, zput_some, zcond_t, zwant_t, zthen_some, wantedV, vop, veval, toVs, toV1, vbuiltin, vlen, vbinX, vbin, vint, BinOp.sh, vun, strip1, strip0, strip, upd_at, initFr_at, vrecv, vret_r, vres, vresL, vseal, List.map_cons, List.map_nil, List.getElem?_cons_zero, List.getElem?_cons_succ, List.getElem?_toArray, Option.map_some, Option.getD_some, Option.bind_some, Option.some.injEq, Bool.false_eq_true, Bool.not_true, decide_true, beq_self_eq_true, eq_self, ↓reduceIte, Nat.reduceEqDiff, exists_eq_left', Vle_self, ty3, ty27, bv_length, gt_iff_lt, bv_length, hm']

theorem txBack_v (u0 : V) (H0 : HasT true [.int .u32, .sl true (List.replicate 32 (.int .u8) ++ [.int .u32] ++ [.sl false [.int .u8]] ++ [.int .u32]), .sl true [.int .u64, .sl false [.int .u8]], .int .u32] u0) (u1 : V) (H1 : HasT false [.sl false [.int .u8]] u1) (u2 : V) (H2 : HasT false [.int .i64] u2) : VPure Try.prog 3 [u0, u1, u2] (.b true) := by
  obtain ⟨t, rfl, ht⟩ := tx_of H0
  obtain ⟨l, rfl, -⟩ := H1.one.bytes
  obtain ⟨k, rfl, -, -⟩ := H2.one.i64
  exact back_ok t ht l k
end Go.Proofs.Ytkcapmodgkficaa
