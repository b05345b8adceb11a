/- Transactions: few, the same. -/
import Derived.Test.YtkcapmodgkficaaTxA
namespace Go.Proofs.Ytkcapmodgkficaa
open Go.Vx Go.Fl
set_option maxRecDepth 100000
set_option maxHeartbeats 4000000
set_option linter.unusedSimpArgs false
set_option linter.unusedVariables false

def fewT (t : TxT) : Bool := t.2.1.all (fun x => decide (x.2.2.1.length ≤ 300)) && t.2.2.1.all (fun y => decide (y.2.length ≤ 300)) && decide (t.2.1.length ≤ 20) && decide (t.2.2.1.length ≤ 20)
theorem few_ok (ver lock : Nat) (ins : List TIn) (outs : List TOut) (hi : ∀ x ∈ ins, x.1.length = 32) :
    VPure Try.prog 8 [tv (ver, ins, outs, lock)] (.b (fewT (ver, ins, outs, lock))) := by
  refine VPure.lens (enters_of Try.func8 rfl rfl) fun hlen => ?_
  have hl : ins.length ≤ 9223372036854775807 ∧ outs.length ≤ 9223372036854775807 := by
    simpa [VLen, tv] using hlen
  clear hlen
  have hF : fewT (ver, ins, outs, lock) = (ins.all (fun x => decide (x.2.2.1.length ≤ 300)) && outs.all (fun y => decide (y.2.length ≤ 300)) && decide (ins.length ≤ 20) && decide (outs.length ≤ 20)) := rfl
  rw [hF]
  refine pure_of_body (tyOf_ok _) mixed Try.func8 rfl rfl (fun _ => 0) (by kernel_rfl) (zin ?_)
  dsimp only [Try.f8]

  simp (maxSteps := 1000000) (dsimp := false) (disch := omega) only [zwp_region_f, zwp_seq, zwp_block, znil_none, nilTest_t, nilOf, zops_nil, zops_none, zstep_eq, zput_some, zthen_some, vop, veval, toVs, toV1, vbox, initFr_at, St.new, V.cells, V.isVal, List.getElem?_cons_zero, Option.getD_some, eq_self, ↓reduceIte, Nat.zero_add, tv]
  refine zloop ins.length (fun k fr σ => fr 1 = .ptr 0 0 ∧ fr 3 = .i .i64 (k : Int) ∧ σ.h 0 = some (.cells [.i .u32 (ver : Int), .sl 35 (ins.map iv) .no, .sl 2 (outs.map ov) .no, .i .u32 (lock : Int)]) ∧ (ins.take k).all (fun x => decide (x.2.2.1.length ≤ 300)) = true) ⟨rfl, rfl, rfl, rfl⟩ ?_
  rintro k fr ⟨h, n⟩ hk ⟨f1, f3, g0, hA⟩
  simp only at g0
  by_cases hlt : k < ins.length
  · have hlt' : (k : Int) < (ins.length : Int) := by omega
    obtain ⟨⟨hsh, i, l, q⟩, hx⟩ : ∃ x, x = ins[k] := ⟨_, rfl⟩
    have lb : (bv hsh).length = 32 := by
      have := hi ins[k] (List.getElem_mem hlt)
      rw [← hx] at this
      simpa using this
    have hgx : (ins.map iv)[k]? = some (.agg (bv hsh ++ [.i .u32 (i : Int), .sl 1 (bv l) .no, .i .u32 (q : Int)])) := by
      rw [List.getElem?_map, List.getElem?_eq_getElem hlt, ← hx]; rfl
    have ht : (ins.take (k + 1)).all (fun x => decide (x.2.2.1.length ≤ 300)) = ((ins.take k).all (fun x => decide (x.2.2.1.length ≤ 300)) && decide (l.length ≤ 300)) := by
      rw [List.take_add_one, List.getElem?_eq_getElem hlt, ← hx, List.all_append]; simp
    have s1 : ∀ x y z : V, (bv hsh ++ [x, y, z]).length = 35 := fun x y z => by rw [List.length_append, lb]; rfl
    have s4 : ∀ x y z : V, (bv hsh ++ [x, y, z])[33]? = some y := fun x y z => by rw [List.getElem?_append_right (by omega), lb]; rfl
    have p3 : ∀ x y z : V, List.drop 33 (bv hsh ++ [x, y, z]) = [y, z] := fun x y z => by rw [List.drop_append, lb, List.drop_eq_nil_of_le (by omega)]; rfl
    by_cases hbig : l.length ≤ 300
    · have hbig' : ¬ (300 : Int) < (l.length : Int) := by omega

      simp (maxSteps := 1000000) (dsimp := false) (disch := omega) only [zwp_skip, zwp_region_f, zwp_seq, zwp_cond, zwp_block, znil_none, nilTest_t, nilOf, zops_nil, zops_none, zstep_eq, zput_some, zcond_t, zcond_f, zthen_some, int_lt0, vop, veval, toVs, toV1, vload, vpart, vbuiltin, vlen, vbinX, vbin, vint, BinOp.sh, vfaddr, viaddr, upd_at, V.cells, TD.agg, List.map_cons, List.map_nil, List.getElem?_cons_zero, List.getElem?_cons_succ, List.length_map, Option.map_some, V.i.injEq, true_and, Bool.false_eq_true, decide_true, decide_false, eq_self, reduceCtorEq, ↓reduceIte, Nat.reduceEqDiff, Nat.zero_add, Int.toNat_natCast, ty3, ty23, ty26, ty27, ty54, bv_length, gt_iff_lt, wrap_i64, f1, f3, g0, hlt', hgx, bv_length, p3, hbig']
      exact ⟨hlt, by omega, by rw [ht, hA]; simpa using hbig⟩
    · have hbig' : (300 : Int) < (l.length : Int) := by omega
      have : ins.all (fun x => decide (x.2.2.1.length ≤ 300)) = false := by
        rw [List.all_eq_false]
        exact ⟨ins[k], List.getElem_mem hlt, by rw [← hx]; simpa using hbig⟩
      rw [this]

      simp (maxSteps := 1000000) (dsimp := false) (disch := omega) only [zwp_skip, zwp_region_f, zwp_seq, zwp_cond, zwp_block, zwp_ret, znil_none, nilTest_t, nilOf, zops_nil, zops_none, zstep_eq, zput_some, zcond_t, zthen_some, int_lt0, vop, veval, toVs, toV1, vload, vpart, vbuiltin, vlen, vbinX, vbin, vint, BinOp.sh, vfaddr, viaddr, strip1, strip0, strip, upd_at, V.cells, TD.agg, vret_r, vres, vresL, vseal, List.map_cons, List.map_nil, List.getElem?_cons_zero, List.getElem?_cons_succ, List.length_map, Option.map_some, Option.bind_some, Option.some.injEq, Bool.false_eq_true, Bool.false_and, decide_true, eq_self, reduceCtorEq, ↓reduceIte, Nat.reduceEqDiff, Nat.zero_add, Int.toNat_natCast, exists_eq_left', Vle_self, ty3, ty23, ty26, ty27, ty54, bv_length, gt_iff_lt, f1, f3, g0, hlt', hgx, bv_length, p3, hbig']
  · have hlt' : ¬ (k : Int) < (ins.length : Int) := by omega
    have hke : k = ins.length := by omega
    subst hke
    rw [List.take_length] at hA
    rw [hA]

    simp (maxSteps := 1000000) (dsimp := false) (disch := omega) only [zwp_region_f, zwp_seq, zwp_cond, zwp_block, zwp_exit, znil_none, nilTest_t, nilOf, zops_nil, zops_none, zstep_eq, zput_some, zcond_f, zthen_some, vop, veval, toVs, toV1, vload, vpart, vbuiltin, vlen, vbinX, vbin, vint, BinOp.sh, vfaddr, upd_at, TD.agg, List.map_cons, List.map_nil, List.getElem?_cons_zero, List.getElem?_cons_succ, List.length_map, Option.map_some, Bool.false_eq_true, decide_false, eq_self, reduceCtorEq, ↓reduceIte, Nat.reduceEqDiff, Nat.zero_add, ty3, ty23, ty26, f1, f3, g0, hlt']
    refine zloop outs.length (fun k fr σ => fr 1 = .ptr 0 0 ∧ fr 4 = .i .i64 (k : Int) ∧ σ.h 0 = some (.cells [.i .u32 (ver : Int), .sl 35 (ins.map iv) .no, .sl 2 (outs.map ov) .no, .i .u32 (lock : Int)]) ∧ (outs.take k).all (fun x => decide (x.2.length ≤ 300)) = true) ⟨f1, rfl, g0, rfl⟩ ?_
    clear hlt' g0 f1 f3 hk hA fr h n
    rintro k fr ⟨h, n⟩ hk ⟨f1, f4, g0, hA⟩
    simp only at g0
    by_cases hlt : k < outs.length
    · have hlt' : (k : Int) < (outs.length : Int) := by omega
      obtain ⟨⟨v, l⟩, hx⟩ : ∃ x, x = outs[k] := ⟨_, rfl⟩
      have hgx : (outs.map ov)[k]? = some (.agg [.i .u64 (v : Int), .sl 1 (bv l) .no]) := by
        rw [List.getElem?_map, List.getElem?_eq_getElem hlt, ← hx]; rfl
      have ht : (outs.take (k + 1)).all (fun x => decide (x.2.length ≤ 300)) = ((outs.take k).all (fun x => decide (x.2.length ≤ 300)) && decide (l.length ≤ 300)) := by
        rw [List.take_add_one, List.getElem?_eq_getElem hlt, ← hx, List.all_append]; simp
      by_cases hbig : l.length ≤ 300
      · have hbig' : ¬ (300 : Int) < (l.length : Int) := by omega

        simp (maxSteps := 1000000) (dsimp := false) (disch := omega) only [zwp_skip, zwp_region_f, zwp_seq, zwp_cond, zwp_block, znil_none, nilTest_t, nilOf, zops_nil, zops_none, zstep_eq, zput_some, zcond_t, zcond_f, zthen_some, int_lt0, vop, veval, toVs, toV1, vload, vpart, vbuiltin, vlen, vbinX, vbin, vint, BinOp.sh, vfaddr, viaddr, upd_at, V.cells, TD.agg, List.map_cons, List.map_nil, List.getElem?_cons_zero, List.getElem?_cons_succ, List.drop_succ_cons, List.drop_zero, List.length_map, Option.map_some, V.i.injEq, true_and, Bool.false_eq_true, decide_true, decide_false, eq_self, reduceCtorEq, ↓reduceIte, Nat.reduceEqDiff, Nat.zero_add, Int.toNat_natCast, ty3, ty24, ty26, ty27, ty50, bv_length, gt_iff_lt, wrap_i64, f1, f4, g0, hlt', hgx, bv_length, hbig']
        exact ⟨hlt, by omega, by rw [ht, hA]; simpa using hbig⟩
      · have hbig' : (300 : Int) < (l.length : Int) := by omega
        have : outs.all (fun x => decide (x.2.length ≤ 300)) = false := by
          rw [List.all_eq_false]
          exact ⟨outs[k], List.getElem_mem hlt, by rw [← hx]; simpa using hbig⟩
        rw [this]

        simp (maxSteps := 1000000) (dsimp := false) (disch := omega) only [zwp_skip, zwp_region_f, zwp_seq, zwp_cond, zwp_block, zwp_ret, znil_none, nilTest_t, nilOf, zops_nil, zops_none, zstep_eq, zput_some, zcond_t, zthen_some, int_lt0, vop, veval, toVs, toV1, vload, vpart, vbuiltin, vlen, vbinX, vbin, vint, BinOp.sh, vfaddr, viaddr, strip1, strip0, strip, upd_at, V.cells, TD.agg, vret_r, vres, vresL, vseal, List.map_cons, List.map_nil, List.getElem?_cons_zero, List.getElem?_cons_succ, List.drop_succ_cons, List.drop_zero, List.length_map, Option.map_some, Option.bind_some, Option.some.injEq, Bool.false_eq_true, Bool.false_and, Bool.and_false, decide_true, eq_self, reduceCtorEq, ↓reduceIte, Nat.reduceEqDiff, Nat.zero_add, Int.toNat_natCast, exists_eq_left', Vle_self, ty3, ty24, ty26, ty27, ty50, bv_length, gt_iff_lt, f1, f4, g0, hlt', hgx, bv_length, hbig']
    · have hlt' : ¬ (k : Int) < (outs.length : Int) := by omega
      have hke : k = outs.length := by omega
      subst hke
      rw [List.take_length] at hA
      rw [hA]
      by_cases b1 : ins.length ≤ 20
      · have b1' : (ins.length : Int) ≤ 20 := by omega

        simp (maxSteps := 1000000) (dsimp := false) (disch := omega) only [zwp_region_f, zwp_seq, zwp_cond, zwp_exit, zwp_ret, znil_none, nilTest_t, nilOf, zops_nil, zops_none, zops_some, zstep_eq, zput_some, zcond_f, zwant_t, zthen_some, wantedV, vop, veval, toVs, toV1, vload, vpart, vbuiltin, vlen, vbinX, vbin, vint, BinOp.sh, vfaddr, strip1, strip0, strip, upd_at, TD.agg, vret_r, vres, vresL, vseal, List.map_cons, List.map_nil, List.getElem?_cons_zero, List.getElem?_cons_succ, List.length_map, List.getElem?_toArray, Option.map_some, Option.bind_some, Option.some.injEq, Bool.false_eq_true, Bool.true_and, Bool.and_true, decide_true, decide_false, beq_self_eq_true, eq_self, reduceCtorEq, ↓reduceIte, Nat.reduceEqDiff, Nat.zero_add, exists_eq_left', ty3, ty23, ty24, ty26, f1, f4, g0, hlt', b1', List.length_map]
        all_goals exact .of_eq (by simp [b1]; omega)
      · have b1' : ¬ (ins.length : Int) ≤ 20 := by omega

        simp (maxSteps := 1000000) (dsimp := false) (disch := omega) only [zwp_region_f, zwp_seq, zwp_cond, zwp_exit, zwp_ret, znil_none, nilTest_t, nilOf, zops_nil, zops_none, zops_some, zstep_eq, zput_some, zcond_f, zwant_f, zthen_some, wantedV, vop, veval, toVs, toV1, vload, vpart, vbuiltin, vlen, vbinX, vbin, vint, BinOp.sh, vfaddr, strip1, strip0, strip, upd_at, TD.agg, vret_r, vres, vresL, vseal, List.map_cons, List.map_nil, List.getElem?_cons_zero, List.getElem?_cons_succ, List.length_map, List.getElem?_toArray, Option.map_some, Option.bind_some, Option.some.injEq, Bool.false_eq_true, Bool.true_and, Bool.and_true, decide_false, eq_self, reduceCtorEq, ↓reduceIte, Nat.reduceEqDiff, Nat.zero_add, beq_true, exists_eq_left', ty3, ty23, ty24, ty26, f1, f4, g0, hlt', b1', List.length_map]
        all_goals exact .of_eq (by simp [b1])

theorem same_ok (ver lock : Nat) (ins : List TIn) (outs : List TOut) (hi : ∀ x ∈ ins, x.1.length = 32) (h1 : ins.length ≤ 100000) (h2 : outs.length ≤ 100000) :
    VPure Try.prog 13 [tv (ver, ins, outs, lock), tv (ver, ins, outs, lock)] (.b true) := by
  refine pure_of_body (tyOf_ok _) mixed Try.func13 rfl rfl (fun _ => 0) (by kernel_rfl) (zin ?_)
  dsimp only [Try.f13]

  simp (maxSteps := 1000000) (dsimp := false) (disch := omega) only [zwp_skip, zwp_region_f, zwp_seq, zwp_cond, zwp_block, znil_none, nilTest_t, nilOf, zops_nil, zops_none, zops_some, zstep_eq, zput_some, zcond_f, zwant_t, zthen_some, wantedV, vop, veval, toVs, toV1, vbox, vload, vpart, vbuiltin, vlen, vbinX, vbin, vint, BinOp.sh, vfaddr, upd_at, initFr_at, St.new, V.cells, V.isVal, TD.agg, List.map_cons, List.map_nil, List.getElem?_cons_zero, List.getElem?_cons_succ, List.length_map, List.getElem?_toArray, Option.map_some, Option.getD_some, Bool.false_eq_true, Bool.not_true, beq_self_eq_true, eq_self, reduceCtorEq, ↓reduceIte, Nat.reduceEqDiff, Nat.reduceAdd, Nat.zero_add, Nat.add_zero, ty3, ty22, ty23, ty24, ty26, bne, tv]
  refine zloop ins.length (fun k fr σ => fr 2 = .ptr 0 0 ∧ fr 3 = .ptr 1 0 ∧ fr 5 = .i .i64 (k : Int) ∧ σ.h 0 = some (.cells [.i .u32 (ver : Int), .sl 35 (ins.map iv) .no, .sl 2 (outs.map ov) .no, .i .u32 (lock : Int)]) ∧ σ.h 1 = some (.cells [.i .u32 (ver : Int), .sl 35 (ins.map iv) .no, .sl 2 (outs.map ov) .no, .i .u32 (lock : Int)]) ∧ 2 ≤ σ.n) ⟨rfl, rfl, rfl, rfl, rfl, Nat.le_refl _⟩ ?_
  rintro k fr ⟨h, n⟩ hk ⟨f2, f3, f5, g0, g1, hn⟩
  simp only at g0 g1 hn
  by_cases hlt : k < ins.length
  · have hlt' : (k : Int) < (ins.length : Int) := by omega
    obtain ⟨⟨hsh, i, l, q⟩, hx⟩ : ∃ x, x = ins[k] := ⟨_, rfl⟩
    have lb : (bv hsh).length = 32 := by
      have := hi ins[k] (List.getElem_mem hlt)
      rw [← hx] at this
      simpa using this
    have hgx : (ins.map iv)[k]? = some (.agg (bv hsh ++ [.i .u32 (i : Int), .sl 1 (bv l) .no, .i .u32 (q : Int)])) := by
      rw [List.getElem?_map, List.getElem?_eq_getElem hlt, ← hx]; rfl
    have s1 : ∀ x y z : V, (bv hsh ++ [x, y, z]).length = 35 := fun x y z => by rw [List.length_append, lb]; rfl
    have s2 : ∀ x y z : V, List.take 32 (bv hsh ++ [x, y, z]) = bv hsh := fun x y z => List.take_left' lb
    have s3 : ∀ x y z : V, (bv hsh ++ [x, y, z])[32]? = some x := fun x y z => by rw [List.getElem?_append_right (by omega), lb]; rfl
    have s4 : ∀ x y z : V, (bv hsh ++ [x, y, z])[33]? = some y := fun x y z => by rw [List.getElem?_append_right (by omega), lb]; rfl
    have s5 : ∀ x y z : V, (bv hsh ++ [x, y, z])[34]? = some z := fun x y z => by rw [List.getElem?_append_right (by omega), lb]; rfl
    have s7 : ∀ x y z : V, List.drop 35 (bv hsh ++ [x, y, z]) = [] := fun x y z => by rw [List.drop_append, lb, List.drop_eq_nil_of_le (by omega)]; rfl
    have s8 : ∀ x y z : V, List.take 35 (bv hsh ++ [x, y, z]) = bv hsh ++ [x, y, z] := fun x y z => List.take_of_length_le (by rw [s1]; exact Nat.le_refl _)
    have n0 : (0 : Nat) ≠ n := by omega
    have n1 : (1 : Nat) ≠ n := by omega
    have n2 : n ≠ n + 1 := by omega

    simp (maxSteps := 1000000) (dsimp := false) (disch := omega) only [zwp_skip, zwp_region_f, zwp_seq, zwp_cond, zwp_block, znil_none, nilTest_t, nilOf, zops_nil, zops_none, zops_some, zstep_eq, zput_some, zput_none, zcond_t, zcond_f, zwant_t, zthen_some, int_lt0, wantedV, vop, veval, toVs, toV1, valloc, vstore, vload, vpart, vbuiltin, vlen, vbinX, vagg, vbin, vint, BinOp.sh, vconv, vfaddr, viaddr, upd_at, St.new, St.put, V.cells, V.isVal, TD.agg, List.map_cons, List.map_nil, List.getElem?_cons_zero, List.getElem?_cons_succ, List.take_zero, List.drop_succ_cons, List.drop_zero, List.drop_nil, List.nil_append, List.append_nil, List.length_cons, List.length_nil, List.length_map, List.getElem?_toArray, Option.map_some, V.i.injEq, and_true, true_and, true_or, and_self, Bool.false_eq_true, Bool.not_true, decide_true, beq_self_eq_true, eq_self, reduceCtorEq, ↓reduceIte, Nat.reduceLeDiff, Nat.reduceEqDiff, Nat.reduceAdd, Nat.zero_add, Nat.add_zero, Nat.le_refl, Int.toNat_natCast, ty3, ty5, ty9, ty22, ty23, ty26, ty27, ty52, ty54, unbv_bv, wrap_i64, bne, if_neg, f2, f3, f5, g0, g1, hlt', hgx, lb, s1, s2, s3, s4, s5, s8, n0, n1, n2]
    exact ⟨hlt, by omega⟩
  · have hlt' : ¬ (k : Int) < (ins.length : Int) := by omega

    simp (maxSteps := 1000000) (dsimp := false) (disch := omega) only [zwp_region_f, zwp_seq, zwp_cond, zwp_block, zwp_exit, znil_none, nilTest_t, nilOf, zops_nil, zops_none, zstep_eq, zput_some, zcond_f, zthen_some, vop, veval, toVs, toV1, vload, vpart, vbuiltin, vlen, vbinX, vbin, vint, BinOp.sh, vfaddr, upd_at, TD.agg, List.map_cons, List.map_nil, List.getElem?_cons_zero, List.getElem?_cons_succ, List.length_map, Option.map_some, Bool.false_eq_true, decide_false, eq_self, reduceCtorEq, ↓reduceIte, Nat.reduceEqDiff, Nat.zero_add, ty3, ty23, ty26, f2, f5, g0, hlt']
    refine zloop outs.length (fun k fr σ => fr 2 = .ptr 0 0 ∧ fr 3 = .ptr 1 0 ∧ fr 8 = .i .i64 (k : Int) ∧ σ.h 0 = some (.cells [.i .u32 (ver : Int), .sl 35 (ins.map iv) .no, .sl 2 (outs.map ov) .no, .i .u32 (lock : Int)]) ∧ σ.h 1 = some (.cells [.i .u32 (ver : Int), .sl 35 (ins.map iv) .no, .sl 2 (outs.map ov) .no, .i .u32 (lock : Int)]) ∧ 2 ≤ σ.n) ⟨f2, f3, rfl, g0, g1, hn⟩ ?_
    clear hlt' g0 g1 f2 f3 f5 hk hn fr h n
    rintro k fr ⟨h, n⟩ hk ⟨f2, f3, f8, g0, g1, hn⟩
    simp only at g0 g1 hn
    by_cases hlt : k < outs.length
    · have hlt' : (k : Int) < (outs.length : Int) := by omega
      obtain ⟨⟨v, l⟩, hx⟩ : ∃ x, x = outs[k] := ⟨_, rfl⟩
      have hgx : (outs.map ov)[k]? = some (.agg [.i .u64 (v : Int), .sl 1 (bv l) .no]) := by
        rw [List.getElem?_map, List.getElem?_eq_getElem hlt, ← hx]; rfl

      simp (maxSteps := 1000000) (dsimp := false) (disch := omega) only [zlate_0, zwp_skip, zwp_region_f, zwp_region_t, zwp_seq, zwp_cond, zwp_block, znil_none, nilTest_f, nilTest_t, nilOf, zops_nil, zops_none, zops_some, zstep_eq, zput_some, zcond_t, zcond_f, zwant_t, zthen_some, int_lt0, wantedV, vop, veval, toVs, toV1, vload, vpart, vbuiltin, vlen, vbinX, vbin, vint, BinOp.sh, vconv, vfaddr, viaddr, upd_at, V.cells, TD.agg, List.map_cons, List.map_nil, List.getElem?_cons_zero, List.getElem?_cons_succ, List.drop_succ_cons, List.drop_zero, List.length_map, List.getElem?_toArray, Option.map_some, V.i.injEq, true_and, true_or, Bool.false_eq_true, Bool.not_true, decide_true, beq_self_eq_true, eq_self, reduceCtorEq, ↓reduceIte, Nat.reduceEqDiff, Nat.zero_add, Int.toNat_natCast, ty3, ty5, ty9, ty24, ty26, ty27, ty48, ty50, unbv_bv, wrap_i64, bne, f2, f3, f8, g0, g1, hlt', hgx]
      exact ⟨hlt, by omega⟩
    · have hlt' : ¬ (k : Int) < (outs.length : Int) := by omega

      simp (maxSteps := 1000000) (dsimp := false) (disch := omega) only [zwp_region_f, zwp_seq, zwp_cond, zwp_exit, zwp_ret, znil_none, nilTest_t, nilOf, zops_nil, zops_none, zstep_eq, zput_some, zcond_f, zthen_some, vop, veval, toVs, toV1, vload, vpart, vbuiltin, vlen, vbinX, vbin, vint, BinOp.sh, vfaddr, strip1, strip0, strip, upd_at, TD.agg, vret_r, vres, vresL, vseal, List.map_cons, List.map_nil, List.getElem?_cons_zero, List.getElem?_cons_succ, List.length_map, Option.map_some, Option.bind_some, Option.some.injEq, Bool.false_eq_true, decide_false, eq_self, reduceCtorEq, ↓reduceIte, Nat.reduceEqDiff, Nat.zero_add, exists_eq_left', Vle_self, ty3, ty24, ty26, f2, f8, g0, hlt']
end Go.Proofs.Ytkcapmodgkficaa
