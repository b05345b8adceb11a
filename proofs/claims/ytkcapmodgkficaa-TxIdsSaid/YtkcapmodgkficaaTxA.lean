/- Transactions from, and as, the document's: ours, theirs. -/
import Derived.Test.YtkcapmodgkficaaTxI
import Derived.Test.YtkcapmodgkficaaTxT
namespace Go.Proofs.Ytkcapmodgkficaa
open Go.Vx Go.Fl
set_option maxRecDepth 100000
set_option maxHeartbeats 4000000
set_option linter.unusedSimpArgs false
set_option linter.unusedVariables false

theorem icell_at {hsh l : List UInt8} {i q : Nat} : icell (hsh, i, l, q) = bv hsh ++ [.i .u32 (i : Int), .sl 1 (bv l) .no, .i .u32 (q : Int)] := rfl
/-- What has been handed over so far: nothing, or some in a slice of its own. -/
def Row1 (h : Nat → Option Ob) (n z : Nat) (ty : TypeId) (xs : List V) (c : V) : Prop := (xs = [] ∧ c = .sl 0 [] .clip) ∨ ∃ t, 3 ≤ t ∧ t < n ∧ c = .sl z xs (.tok t) ∧ h t = some (.tok ty)
theorem Row1.up {h h' : Nat → Option Ob} {n n' z : Nat} {ty : TypeId} {xs : List V} {c : V} (H : Row1 h n z ty xs c) (hn : n ≤ n') (hh : ∀ t, 3 ≤ t → t < n → h' t = h t) : Row1 h' n' z ty xs c := by
  rcases H with H | ⟨t, h1, h2, h3, h4⟩
  · exact .inl H
  · exact .inr ⟨t, h1, by omega, h3, by rw [hh t h1 h2]; exact h4⟩

theorem ours_ok (ver lock : Nat) (ins : List TIn) (outs : List TOut) (hi : ∀ x ∈ ins, x.1.length = 32) (h1 : ins.length ≤ 100000) (h2 : outs.length ≤ 100000) :
    VPure Try.prog 10 [tv (ver, ins, outs, lock)] (tv (ver, ins, outs, lock)) := by
  refine pure_of_body (tyOf_ok _) mixed Try.func10 rfl rfl (fun d => if d = 36 then 1 else if d = 61 then 1 else 0) (by kernel_rfl) (zin ?_)
  dsimp only [Try.f10]

  simp (maxSteps := 1000000) (dsimp := false) (disch := omega) only [zwp_region_f, zwp_seq, zwp_block, znil_none, nilTest_t, nilOf, zops_nil, zops_none, zstep_eq, zput_some, zput_none, zthen_some, vop, veval, vprt, toVs, toV1, valloc, vbox, vstore, vload, vpart, vbuild, vfill, vfaddr, upd_at, initFr_at, St.new, St.put, V.cells, V.isVal, TD.agg, List.map_cons, List.map_nil, List.getElem?_cons_zero, List.getElem?_cons_succ, List.take_succ_cons, List.take_zero, List.drop_succ_cons, List.drop_zero, List.drop_nil, List.nil_append, List.cons_append, List.append_nil, List.length_cons, List.length_nil, Option.map_some, Option.getD_some, and_self, Bool.false_eq_true, eq_self, reduceCtorEq, ↓reduceIte, Nat.reduceLeDiff, Nat.reduceEqDiff, Nat.reduceAdd, Nat.zero_add, Nat.add_zero, Nat.le_refl, ty22, ty26, ty36, tv]
  refine zloop ins.length (fun k fr σ => fr 1 = .ptr 0 0 ∧ fr 2 = .ptr 1 0 ∧ fr 3 = .ptr 2 0 ∧ fr 4 = .i .i64 (k : Int) ∧ σ.h 0 = some (.cells [.i .u32 (ver : Int), .sl 35 (ins.map iv) .no, .sl 2 (outs.map ov) .no, .i .u32 (lock : Int)]) ∧ (∃ ys, σ.h 1 = some (.cells ys) ∧ ys.length = 4) ∧ 3 ≤ σ.n ∧ ∃ c, σ.h 2 = some (.cells [.i .u32 (ver : Int), c, .sl 0 [] .clip, .i .u32 (lock : Int)]) ∧ Row1 σ.h σ.n 35 59 ((ins.take k).map iv) c) ⟨rfl, rfl, rfl, rfl, rfl, ⟨_, rfl, rfl⟩, Nat.le_refl _, _, rfl, .inl ⟨rfl, rfl⟩⟩ ?_
  rintro k fr ⟨h, n⟩ hk ⟨f1, f2, f3, f4, g0, ⟨ys, g1, gy⟩, hn, c, g2, hR⟩
  simp only at g0 g1 g2 hn hR
  by_cases hlt : k < ins.length
  · have hlt' : (k : Int) < (ins.length : Int) := by omega
    obtain ⟨⟨hsh, i, l, q⟩, hx⟩ : ∃ x, x = ins[k] := ⟨_, rfl⟩
    have lb : (bv hsh).length = 32 := by
      have := hi ins[k] (List.getElem_mem hlt)
      rw [← hx] at this
      simpa using this
    have hgx : (ins.map iv)[k]? = some (.agg (bv hsh ++ [.i .u32 (i : Int), .sl 1 (bv l) .no, .i .u32 (q : Int)])) := by
      rw [List.getElem?_map, List.getElem?_eq_getElem hlt, ← hx]; rfl
    have ht : (ins.take (k + 1)).map iv = (ins.take k).map iv ++ [.agg (bv hsh ++ [.i .u32 (i : Int), .sl 1 (bv l) .no, .i .u32 (q : Int)])] := by
      rw [List.take_add_one, List.getElem?_eq_getElem hlt, ← hx, List.map_append]; rfl
    have s1 : ∀ x y z : V, (bv hsh ++ [x, y, z]).length = 35 := fun x y z => by rw [List.length_append, lb]; rfl
    have s2 : ∀ x y z : V, List.take 32 (bv hsh ++ [x, y, z]) = bv hsh := fun x y z => List.take_left' lb
    have s3 : ∀ x y z : V, (bv hsh ++ [x, y, z])[32]? = some x := fun x y z => by rw [List.getElem?_append_right (by omega), lb]; rfl
    have s4 : ∀ x y z : V, (bv hsh ++ [x, y, z])[33]? = some y := fun x y z => by rw [List.getElem?_append_right (by omega), lb]; rfl
    have s5 : ∀ x y z : V, (bv hsh ++ [x, y, z])[34]? = some z := fun x y z => by rw [List.getElem?_append_right (by omega), lb]; rfl
    have s7 : ∀ x y z : V, List.drop 35 (bv hsh ++ [x, y, z]) = [] := fun x y z => by rw [List.drop_append, lb, List.drop_eq_nil_of_le (by omega)]; rfl
    have s8 : ∀ x y z : V, List.take 35 (bv hsh ++ [x, y, z]) = bv hsh ++ [x, y, z] := fun x y z => List.take_of_length_le (by rw [s1]; exact Nat.le_refl _)
    have p3 : ∀ x y z : V, List.drop 33 (bv hsh ++ [x, y, z]) = [y, z] := fun x y z => by rw [List.drop_append, lb, List.drop_eq_nil_of_le (by omega)]; rfl
    have p4 : ∀ x y z : V, List.take 33 (bv hsh ++ [x, y, z]) = bv hsh ++ [x] := fun x y z => by rw [List.take_append, lb, List.take_of_length_le (by omega)]; rfl
    have p5 : ∀ x y z : V, List.drop 34 (bv hsh ++ [x, y, z]) = [z] := fun x y z => by rw [List.drop_append, lb, List.drop_eq_nil_of_le (by omega)]; rfl
    have p6 : ∀ x y z : V, List.take 34 (bv hsh ++ [x, y, z]) = bv hsh ++ [x, y] := fun x y z => by rw [List.take_append, lb, List.take_of_length_le (by omega)]; rfl
    have s9 : stripL (bv hsh ++ [V.i .u32 (i : Int), .sl 1 (bv l) .no, .i .u32 (q : Int)]) = some (bv hsh ++ [V.i .u32 (i : Int), .sl 1 (bv l) .no, .i .u32 (q : Int)]) := stripL_app (stripL_bv _) rfl
    have n0 : (0 : Nat) ≠ n := by omega
    have n1 : (1 : Nat) ≠ n := by omega
    have n2 : (2 : Nat) ≠ n := by omega
    have u2 : (k + 1) * 10000 ≤ 140737488355328 := by omega
    have ltk : ((ins.take k).map iv).length = k := by rw [List.length_map, List.length_take]; omega
    rcases hR with ⟨he, rfl⟩ | ⟨t, t1, t2, rfl, t3⟩
    · rw [he] at ht

      simp (maxSteps := 1000000) (dsimp := false) (disch := omega) only [zwp_skip, zwp_region_f, zwp_seq, zwp_cond, zwp_block, znil_none, nilTest_t, nilOf, zops_nil, zops_none, zstep_eq, zput_some, zput_none, zcond_t, zthen_some, int_lt0, vop, veval, vprt, toVs, toV1, valloc, vstore, vload, vpart, vbuild, vfill, vblit, vlits, zeroElem, vbuiltin, vlen, vbinX, vbin, vint, BinOp.sh, vfaddr, viaddr, vapp, vsrc, vgrow, strip0, upd_at, St.new, St.put, St.tok, V.cells, V.isVal, TD.agg, List.map_cons, List.map_nil, List.getElem?_cons_zero, List.getElem?_cons_succ, List.take_succ_cons, List.take_zero, List.drop_succ_cons, List.drop_zero, List.drop_nil, List.nil_append, List.cons_append, List.append_nil, List.length_cons, List.length_nil, List.length_map, List.replicate_one, List.set_cons_zero, List.isEmpty_cons, List.isEmpty_nil, List.append_assoc, Option.map_some, Option.any_some, Option.some.injEq, V.i.injEq, true_and, or_true, or_false, and_self, Bool.false_eq_true, Bool.not_true, Bool.and_true, Bool.and_false, decide_true, eq_self, reduceCtorEq, ↓reduceIte, Nat.reduceLT, Nat.reduceLeDiff, Nat.reduceEqDiff, Nat.reduceAdd, Nat.reduceBEq, Nat.zero_add, Nat.add_zero, Nat.le_refl, Nat.one_mul, Int.toNat_natCast, List.cons_ne_nil, ty3, ty22, ty23, ty26, ty27, ty33, ty36, ty52, ty54, ty59, wrap_i64, if_neg, f1, f2, f3, f4, g0, g2, hlt', hgx, lb, s1, s2, s3, s4, s5, s7, s8, s9, p3, p4, p5, p6, n0, n1, n2]
      refine ⟨hlt, by omega, ⟨ys, g1, gy⟩, by omega, _, rfl, ?_⟩
      rw [ht]
      exact .inr ⟨n + 1, by omega, by omega, rfl, by rw [upd_ne _ _ (by omega), upd_same]⟩
    · have u3 : t ≠ 2 := by omega
      have u4 : (2 : Nat) ≠ t := by omega
      have u5 : n ≠ t := by omega

      simp (maxSteps := 1000000) (dsimp := false) (disch := omega) only [zwp_skip, zwp_region_f, zwp_seq, zwp_cond, zwp_block, znil_none, nilTest_t, nilOf, zops_nil, zops_none, zstep_eq, zput_some, zput_none, zcond_t, zthen_some, int_lt0, vop, veval, vprt, toVs, toV1, valloc, vstore, vload, vpart, vbuild, vfill, vblit, vlits, zeroElem, vbuiltin, vlen, vbinX, vbin, vint, BinOp.sh, vfaddr, viaddr, vapp, vsrc, vgrow, strip0, upd_at, St.new, St.put, St.tok, V.cells, V.isVal, TD.agg, List.map_cons, List.map_nil, List.getElem?_cons_zero, List.getElem?_cons_succ, List.take_succ_cons, List.take_zero, List.drop_succ_cons, List.drop_zero, List.drop_nil, List.nil_append, List.cons_append, List.append_nil, List.length_cons, List.length_nil, List.length_map, List.replicate_one, List.set_cons_zero, List.isEmpty_cons, List.append_assoc, Option.map_some, Option.any_some, Option.some.injEq, V.i.injEq, true_and, true_or, or_false, and_self, Bool.false_eq_true, Bool.false_and, Bool.and_false, decide_true, decide_false, eq_self, reduceCtorEq, ↓reduceIte, Nat.reduceLT, Nat.reduceLeDiff, Nat.reduceEqDiff, Nat.reduceAdd, Nat.reduceBEq, Nat.zero_add, Nat.add_zero, Nat.le_refl, Nat.one_mul, Int.toNat_natCast, List.cons_ne_nil, ty3, ty22, ty23, ty26, ty27, ty33, ty36, ty52, ty54, ty59, wrap_i64, if_pos, if_neg, f1, f2, f3, f4, g0, g2, hlt', hgx, lb, s1, s2, s3, s4, s5, s7, s8, s9, p3, p4, p5, p6, n0, n1, n2, ltk, t3, u4]
      refine ⟨hlt, by omega, ⟨ys, g1, gy⟩, by omega, _, rfl, ?_⟩
      rw [ht]
      exact .inr ⟨n + 1, by omega, by omega, rfl, by rw [upd_ne _ _ (by omega), upd_same]⟩
  · have hlt' : ¬ (k : Int) < (ins.length : Int) := by omega
    have hke : k = ins.length := by omega
    subst hke
    rw [List.take_length] at hR

    simp (maxSteps := 1000000) (dsimp := false) (disch := omega) only [zwp_region_f, zwp_seq, zwp_cond, zwp_block, zwp_exit, znil_none, nilTest_t, nilOf, zops_nil, zops_none, zstep_eq, zput_some, zcond_f, zthen_some, vop, veval, toVs, toV1, vload, vpart, vbuiltin, vlen, vbinX, vbin, vint, BinOp.sh, vfaddr, upd_at, TD.agg, List.map_cons, List.map_nil, List.getElem?_cons_zero, List.getElem?_cons_succ, List.length_map, Option.map_some, Bool.false_eq_true, decide_false, eq_self, reduceCtorEq, ↓reduceIte, Nat.reduceEqDiff, Nat.zero_add, ty3, ty23, ty26, f1, f4, g0, hlt']
    have hC : (ins = [] ∧ c = .sl 0 [] .clip) ∨ ∃ t, c = .sl 35 (ins.map iv) (.tok t) := by
      rcases hR with ⟨h1, h2⟩ | ⟨t, _, _, h3, _⟩
      · exact .inl ⟨by simpa using h1, h2⟩
      · exact .inr ⟨t, h3⟩
    refine zloop outs.length (fun k fr σ => fr 1 = .ptr 0 0 ∧ fr 2 = .ptr 1 0 ∧ fr 3 = .ptr 2 0 ∧ fr 6 = .i .i64 (k : Int) ∧ σ.h 0 = some (.cells [.i .u32 (ver : Int), .sl 35 (ins.map iv) .no, .sl 2 (outs.map ov) .no, .i .u32 (lock : Int)]) ∧ (∃ ys, σ.h 1 = some (.cells ys) ∧ ys.length = 4) ∧ 3 ≤ σ.n ∧ ∃ c', σ.h 2 = some (.cells [.i .u32 (ver : Int), c, c', .i .u32 (lock : Int)]) ∧ Row1 σ.h σ.n 2 60 ((outs.take k).map ov) c') ⟨f1, f2, f3, rfl, g0, ⟨ys, g1, gy⟩, hn, _, g2, .inl ⟨rfl, rfl⟩⟩ ?_
    clear hlt' g0 g1 gy g2 f1 f2 f3 f4 hR hn hk ys fr h n
    rintro k fr ⟨h, n⟩ hk ⟨f1, f2, f3, f6, g0, ⟨ys, g1, gy⟩, hn, c', g2, hR⟩
    simp only at g0 g1 g2 hn hR
    by_cases hlt : k < outs.length
    · have hlt' : (k : Int) < (outs.length : Int) := by omega
      obtain ⟨⟨v, l⟩, hx⟩ : ∃ x, x = outs[k] := ⟨_, rfl⟩
      have hgx : (outs.map ov)[k]? = some (.agg [.i .u64 (v : Int), .sl 1 (bv l) .no]) := by
        rw [List.getElem?_map, List.getElem?_eq_getElem hlt, ← hx]; rfl
      have ht : (outs.take (k + 1)).map ov = (outs.take k).map ov ++ [.agg [.i .u64 (v : Int), .sl 1 (bv l) .no]] := by
        rw [List.take_add_one, List.getElem?_eq_getElem hlt, ← hx, List.map_append]; rfl
      have n0 : (0 : Nat) ≠ n := by omega
      have n1 : (1 : Nat) ≠ n := by omega
      have n2 : (2 : Nat) ≠ n := by omega
      have u2 : (k + 1) * 10000 ≤ 140737488355328 := by omega
      have ltk : ((outs.take k).map ov).length = k := by rw [List.length_map, List.length_take]; omega
      rcases hR with ⟨he, rfl⟩ | ⟨t, t1, t2, rfl, t3⟩
      · rw [he] at ht

        simp (maxSteps := 1000000) (dsimp := false) (disch := omega) only [zlate_0, zwp_skip, zwp_region_f, zwp_region_t, zwp_seq, zwp_cond, zwp_block, znil_none, nilTest_f, nilTest_t, nilOf, zops_nil, zops_none, zstep_eq, zput_some, zput_none, zcond_t, zthen_some, int_lt0, vop, veval, vprt, toVs, toV1, vstore, vload, vpart, vbuild, vfill, vblit, vlits, zeroElem, vbuiltin, vlen, vbinX, vbin, vint, BinOp.sh, vfaddr, viaddr, vapp, vsrc, vgrow, strip1, stripL, strip0, upd_at, St.put, St.tok, V.cells, V.isVal, TD.agg, List.map_cons, List.map_nil, List.getElem?_cons_zero, List.getElem?_cons_succ, List.take_succ_cons, List.take_zero, List.drop_succ_cons, List.drop_zero, List.drop_nil, List.nil_append, List.cons_append, List.append_nil, List.length_cons, List.length_nil, List.length_map, List.replicate_one, List.set_cons_zero, List.isEmpty_cons, List.isEmpty_nil, Option.map_some, Option.any_some, Option.some.injEq, V.i.injEq, true_and, or_true, or_false, and_self, Bool.false_eq_true, Bool.not_true, Bool.and_true, Bool.and_false, decide_true, eq_self, reduceCtorEq, ↓reduceIte, Nat.reduceLT, Nat.reduceLeDiff, Nat.reduceEqDiff, Nat.reduceAdd, Nat.reduceBEq, Nat.zero_add, Nat.le_refl, Nat.one_mul, Int.toNat_natCast, List.cons_ne_nil, ty3, ty24, ty26, ty27, ty34, ty36, ty48, ty50, ty60, wrap_i64, f1, f2, f3, f6, g0, g2, hlt', hgx, n0, n1, n2]
        refine ⟨hlt, by omega, ⟨ys, g1, gy⟩, by omega, _, rfl, ?_⟩
        rw [ht]
        exact .inr ⟨n, by omega, by omega, rfl, by rw [upd_ne _ _ (by omega), upd_same]⟩
      · have u3 : t ≠ 2 := by omega
        have u4 : (2 : Nat) ≠ t := by omega
        have u5 : n ≠ t := by omega

        simp (maxSteps := 1000000) (dsimp := false) (disch := omega) only [zlate_0, zwp_skip, zwp_region_f, zwp_region_t, zwp_seq, zwp_cond, zwp_block, znil_none, nilTest_f, nilTest_t, nilOf, zops_nil, zops_none, zstep_eq, zput_some, zput_none, zcond_t, zthen_some, int_lt0, vop, veval, vprt, toVs, toV1, vstore, vload, vpart, vbuild, vfill, vblit, vlits, zeroElem, vbuiltin, vlen, vbinX, vbin, vint, BinOp.sh, vfaddr, viaddr, vapp, vsrc, vgrow, strip1, stripL, strip0, upd_at, St.put, St.tok, V.cells, V.isVal, TD.agg, List.map_cons, List.map_nil, List.getElem?_cons_zero, List.getElem?_cons_succ, List.take_succ_cons, List.take_zero, List.drop_succ_cons, List.drop_zero, List.drop_nil, List.nil_append, List.cons_append, List.append_nil, List.length_cons, List.length_nil, List.length_map, List.replicate_one, List.set_cons_zero, List.isEmpty_cons, Option.map_some, Option.any_some, Option.some.injEq, V.i.injEq, true_and, true_or, or_false, and_self, Bool.false_eq_true, Bool.false_and, Bool.and_false, decide_true, decide_false, eq_self, reduceCtorEq, ↓reduceIte, Nat.reduceLT, Nat.reduceLeDiff, Nat.reduceEqDiff, Nat.reduceAdd, Nat.reduceBEq, Nat.zero_add, Nat.le_refl, Nat.one_mul, Int.toNat_natCast, List.cons_ne_nil, ty3, ty24, ty26, ty27, ty34, ty36, ty48, ty50, ty60, wrap_i64, if_pos, if_neg, f1, f2, f3, f6, g0, g2, hlt', hgx, n0, n1, n2, ltk, t3, u4]
        refine ⟨hlt, by omega, ⟨ys, g1, gy⟩, by omega, _, rfl, ?_⟩
        rw [ht]
        exact .inr ⟨n, by omega, by omega, rfl, by rw [upd_ne _ _ (by omega), upd_same]⟩
    · have hlt' : ¬ (k : Int) < (outs.length : Int) := by omega
      have hke : k = outs.length := by omega
      subst hke
      rw [List.take_length] at hR
      rcases hC with ⟨rfl, rfl⟩ | ⟨t, rfl⟩ <;> rcases hR with ⟨he, rfl⟩ | ⟨t', t1, t2, rfl, t3⟩
      · have he0 : outs = [] := by simpa using he
        subst he0

        simp (maxSteps := 1000000) (dsimp := false) (disch := omega) only [zwp_region_f, zwp_seq, zwp_cond, zwp_exit, zwp_ret, znil_none, nilTest_t, nilOf, zops_nil, zops_none, zstep_eq, zput_some, zput_none, zcond_f, zthen_some, vop, veval, vstore, vload, vpart, vbuiltin, vlen, vbinX, vbin, vint, BinOp.sh, vfaddr, strip1, stripL, strip0, strip, upd_at, St.put, V.cells, V.isVal, TD.agg, vret_r, vres, vresL, vseal, List.map_cons, List.map_nil, List.getElem?_cons_zero, List.getElem?_cons_succ, List.take_succ_cons, List.take_zero, List.take_nil, List.drop_zero, List.nil_append, List.cons_append, List.length_cons, List.length_nil, Option.map_some, Option.bind_some, Option.some.injEq, and_self, Bool.false_eq_true, decide_false, eq_self, reduceCtorEq, ↓reduceIte, Nat.reduceLeDiff, Nat.reduceEqDiff, Nat.reduceAdd, Nat.zero_add, Nat.le_refl, Int.reduceLT, exists_eq_left', ty3, ty24, ty26, ty36, Int.cast_ofNat_Int, f1, f2, f3, f6, g0, g2, g1, gy]
        exact .of (.agg (.cons (.refl _) (.cons (.nil _ _ _) (.cons (.nil _ _ _) (.cons (.refl _) .nil)))))
      · skip
        simp (maxSteps := 1000000) (dsimp := false) (disch := omega) only [zwp_region_f, zwp_seq, zwp_cond, zwp_exit, zwp_ret, znil_none, nilTest_t, nilOf, zops_nil, zops_none, zstep_eq, zput_some, zput_none, zcond_f, zthen_some, vop, veval, vstore, vload, vpart, vbuiltin, vlen, vbinX, vbin, vint, BinOp.sh, vfaddr, strip1, stripL, strip0, strip, upd_at, St.put, V.cells, V.isVal, TD.agg, vret_r, vres, vresL, vseal, List.map_cons, List.map_nil, List.getElem?_cons_zero, List.getElem?_cons_succ, List.take_succ_cons, List.take_zero, List.take_nil, List.drop_zero, List.nil_append, List.cons_append, List.length_cons, List.length_nil, List.length_map, Option.map_some, Option.bind_some, Option.some.injEq, and_self, Bool.false_eq_true, decide_false, eq_self, reduceCtorEq, ↓reduceIte, Nat.reduceLeDiff, Nat.reduceEqDiff, Nat.reduceAdd, Nat.zero_add, Nat.le_refl, exists_eq_left', ty3, ty24, ty26, ty36, f1, f2, f3, f6, g0, g2, g1, gy, hlt']
        exact .of (.agg (.cons (.refl _) (.cons (.nil _ _ _) (.cons (.refl _) (.cons (.refl _) .nil)))))
      · have he0 : outs = [] := by simpa using he
        subst he0

        simp (maxSteps := 1000000) (dsimp := false) (disch := omega) only [zwp_region_f, zwp_seq, zwp_cond, zwp_exit, zwp_ret, znil_none, nilTest_t, nilOf, zops_nil, zops_none, zstep_eq, zput_some, zput_none, zcond_f, zthen_some, vop, veval, vstore, vload, vpart, vbuiltin, vlen, vbinX, vbin, vint, BinOp.sh, vfaddr, strip1, stripL, strip0, strip, upd_at, St.put, V.cells, V.isVal, TD.agg, vret_r, vres, vresL, vseal, List.map_cons, List.map_nil, List.getElem?_cons_zero, List.getElem?_cons_succ, List.take_succ_cons, List.take_zero, List.take_nil, List.drop_zero, List.nil_append, List.cons_append, List.length_cons, List.length_nil, Option.map_some, Option.bind_some, Option.some.injEq, and_self, Bool.false_eq_true, decide_false, eq_self, reduceCtorEq, ↓reduceIte, Nat.reduceLeDiff, Nat.reduceEqDiff, Nat.reduceAdd, Nat.zero_add, Nat.le_refl, Int.reduceLT, exists_eq_left', ty3, ty24, ty26, ty36, Int.cast_ofNat_Int, f1, f2, f3, f6, g0, g2, g1, gy]
        exact .of (.agg (.cons (.refl _) (.cons (.refl _) (.cons (.nil _ _ _) (.cons (.refl _) .nil)))))
      · skip
        simp (maxSteps := 1000000) (dsimp := false) (disch := omega) only [zwp_region_f, zwp_seq, zwp_cond, zwp_exit, zwp_ret, znil_none, nilTest_t, nilOf, zops_nil, zops_none, zstep_eq, zput_some, zput_none, zcond_f, zthen_some, vop, veval, vstore, vload, vpart, vbuiltin, vlen, vbinX, vbin, vint, BinOp.sh, vfaddr, strip1, stripL, strip0, strip, upd_at, St.put, V.cells, V.isVal, TD.agg, vret_r, vres, vresL, vseal, List.map_cons, List.map_nil, List.getElem?_cons_zero, List.getElem?_cons_succ, List.take_succ_cons, List.take_zero, List.take_nil, List.drop_zero, List.nil_append, List.cons_append, List.length_cons, List.length_nil, List.length_map, Option.map_some, Option.bind_some, Option.some.injEq, and_self, Bool.false_eq_true, decide_false, eq_self, reduceCtorEq, ↓reduceIte, Nat.reduceLeDiff, Nat.reduceEqDiff, Nat.reduceAdd, Nat.zero_add, Nat.le_refl, exists_eq_left', ty3, ty24, ty26, ty36, f1, f2, f3, f6, g0, g2, g1, gy, hlt']
        exact .refl _

theorem theirs_ok (ver lock : Nat) (ins : List TIn) (outs : List TOut) (hi : ∀ x ∈ ins, x.1.length = 32) (h1 : ins.length ≤ 100000) (h2 : outs.length ≤ 100000) :
    VPure Try.prog 14 [tv (ver, ins, outs, lock)] (tv (ver, ins, outs, lock)) := by
  refine pure_of_body (tyOf_ok _) mixed Try.func14 rfl rfl (fun d => if d = 36 then 1 else if d = 61 then 1 else 0) (by kernel_rfl) (zin ?_)
  dsimp only [Try.f14]

  simp (maxSteps := 1000000) (dsimp := false) (disch := omega) only [zwp_region_f, zwp_seq, zwp_block, znil_none, nilTest_t, nilOf, zops_nil, zops_none, zstep_eq, zput_some, zput_none, zthen_some, vop, veval, vprt, toVs, toV1, valloc, vbox, vstore, vload, vpart, vbuild, vfill, vfaddr, upd_at, initFr_at, St.new, St.put, V.cells, V.isVal, TD.agg, List.map_cons, List.map_nil, List.getElem?_cons_zero, List.getElem?_cons_succ, List.take_succ_cons, List.take_zero, List.drop_succ_cons, List.drop_zero, List.drop_nil, List.nil_append, List.cons_append, List.append_nil, List.length_cons, List.length_nil, Option.map_some, Option.getD_some, and_self, Bool.false_eq_true, eq_self, reduceCtorEq, ↓reduceIte, Nat.reduceLeDiff, Nat.reduceEqDiff, Nat.reduceAdd, Nat.zero_add, Nat.add_zero, Nat.le_refl, ty22, ty26, ty36, tv]
  refine zloop ins.length (fun k fr σ => fr 1 = .ptr 0 0 ∧ fr 2 = .ptr 1 0 ∧ fr 3 = .ptr 2 0 ∧ fr 4 = .i .i64 (k : Int) ∧ σ.h 0 = some (.cells [.i .u32 (ver : Int), .sl 35 (ins.map iv) .no, .sl 2 (outs.map ov) .no, .i .u32 (lock : Int)]) ∧ (∃ ys, σ.h 1 = some (.cells ys) ∧ ys.length = 4) ∧ 3 ≤ σ.n ∧ ∃ c, σ.h 2 = some (.cells [.i .u32 (ver : Int), c, .sl 0 [] .clip, .i .u32 (lock : Int)]) ∧ Row1 σ.h σ.n 35 54 ((ins.take k).map iv) c) ⟨rfl, rfl, rfl, rfl, rfl, ⟨_, rfl, rfl⟩, Nat.le_refl _, _, rfl, .inl ⟨rfl, rfl⟩⟩ ?_
  rintro k fr ⟨h, n⟩ hk ⟨f1, f2, f3, f4, g0, ⟨ys, g1, gy⟩, hn, c, g2, hR⟩
  simp only at g0 g1 g2 hn hR
  by_cases hlt : k < ins.length
  · have hlt' : (k : Int) < (ins.length : Int) := by omega
    obtain ⟨⟨hsh, i, l, q⟩, hx⟩ : ∃ x, x = ins[k] := ⟨_, rfl⟩
    have lb : (bv hsh).length = 32 := by
      have := hi ins[k] (List.getElem_mem hlt)
      rw [← hx] at this
      simpa using this
    have hgx : (ins.map iv)[k]? = some (.agg (bv hsh ++ [.i .u32 (i : Int), .sl 1 (bv l) .no, .i .u32 (q : Int)])) := by
      rw [List.getElem?_map, List.getElem?_eq_getElem hlt, ← hx]; rfl
    have ht : (ins.take (k + 1)).map iv = (ins.take k).map iv ++ [.agg (bv hsh ++ [.i .u32 (i : Int), .sl 1 (bv l) .no, .i .u32 (q : Int)])] := by
      rw [List.take_add_one, List.getElem?_eq_getElem hlt, ← hx, List.map_append]; rfl
    have s1 : ∀ x y z : V, (bv hsh ++ [x, y, z]).length = 35 := fun x y z => by rw [List.length_append, lb]; rfl
    have s2 : ∀ x y z : V, List.take 32 (bv hsh ++ [x, y, z]) = bv hsh := fun x y z => List.take_left' lb
    have s3 : ∀ x y z : V, (bv hsh ++ [x, y, z])[32]? = some x := fun x y z => by rw [List.getElem?_append_right (by omega), lb]; rfl
    have s4 : ∀ x y z : V, (bv hsh ++ [x, y, z])[33]? = some y := fun x y z => by rw [List.getElem?_append_right (by omega), lb]; rfl
    have s5 : ∀ x y z : V, (bv hsh ++ [x, y, z])[34]? = some z := fun x y z => by rw [List.getElem?_append_right (by omega), lb]; rfl
    have s7 : ∀ x y z : V, List.drop 35 (bv hsh ++ [x, y, z]) = [] := fun x y z => by rw [List.drop_append, lb, List.drop_eq_nil_of_le (by omega)]; rfl
    have s8 : ∀ x y z : V, List.take 35 (bv hsh ++ [x, y, z]) = bv hsh ++ [x, y, z] := fun x y z => List.take_of_length_le (by rw [s1]; exact Nat.le_refl _)
    have p3 : ∀ x y z : V, List.drop 33 (bv hsh ++ [x, y, z]) = [y, z] := fun x y z => by rw [List.drop_append, lb, List.drop_eq_nil_of_le (by omega)]; rfl
    have p4 : ∀ x y z : V, List.take 33 (bv hsh ++ [x, y, z]) = bv hsh ++ [x] := fun x y z => by rw [List.take_append, lb, List.take_of_length_le (by omega)]; rfl
    have p5 : ∀ x y z : V, List.drop 34 (bv hsh ++ [x, y, z]) = [z] := fun x y z => by rw [List.drop_append, lb, List.drop_eq_nil_of_le (by omega)]; rfl
    have p6 : ∀ x y z : V, List.take 34 (bv hsh ++ [x, y, z]) = bv hsh ++ [x, y] := fun x y z => by rw [List.take_append, lb, List.take_of_length_le (by omega)]; rfl
    have s9 : stripL (bv hsh ++ [V.i .u32 (i : Int), .sl 1 (bv l) .no, .i .u32 (q : Int)]) = some (bv hsh ++ [V.i .u32 (i : Int), .sl 1 (bv l) .no, .i .u32 (q : Int)]) := stripL_app (stripL_bv _) rfl
    have n0 : (0 : Nat) ≠ n := by omega
    have n1 : (1 : Nat) ≠ n := by omega
    have n2 : (2 : Nat) ≠ n := by omega
    have u2 : (k + 1) * 10000 ≤ 140737488355328 := by omega
    have ltk : ((ins.take k).map iv).length = k := by rw [List.length_map, List.length_take]; omega
    rcases hR with ⟨he, rfl⟩ | ⟨t, t1, t2, rfl, t3⟩
    · rw [he] at ht

      simp (maxSteps := 1000000) (dsimp := false) (disch := omega) only [zwp_skip, zwp_region_f, zwp_seq, zwp_cond, zwp_block, znil_none, nilTest_t, nilOf, zops_nil, zops_none, zstep_eq, zput_some, zput_none, zcond_t, zthen_some, int_lt0, vop, veval, vprt, toVs, toV1, valloc, vstore, vload, vpart, vbuild, vfill, vblit, vlits, zeroElem, vbuiltin, vlen, vbinX, vbin, vint, BinOp.sh, vfaddr, viaddr, vapp, vsrc, vgrow, strip0, upd_at, St.new, St.put, St.tok, V.cells, V.isVal, TD.agg, List.map_cons, List.map_nil, List.getElem?_cons_zero, List.getElem?_cons_succ, List.take_succ_cons, List.take_zero, List.drop_succ_cons, List.drop_zero, List.drop_nil, List.nil_append, List.cons_append, List.append_nil, List.length_cons, List.length_nil, List.length_map, List.replicate_one, List.set_cons_zero, List.isEmpty_cons, List.isEmpty_nil, List.append_assoc, Option.map_some, Option.any_some, Option.some.injEq, V.i.injEq, true_and, or_true, or_false, and_self, Bool.false_eq_true, Bool.not_true, Bool.and_true, Bool.and_false, decide_true, eq_self, reduceCtorEq, ↓reduceIte, Nat.reduceLT, Nat.reduceLeDiff, Nat.reduceEqDiff, Nat.reduceAdd, Nat.reduceBEq, Nat.zero_add, Nat.add_zero, Nat.le_refl, Nat.one_mul, Int.toNat_natCast, List.cons_ne_nil, ty3, ty22, ty23, ty26, ty27, ty33, ty36, ty52, ty54, ty59, wrap_i64, if_neg, f1, f2, f3, f4, g0, g2, hlt', hgx, lb, s1, s2, s3, s4, s5, s7, s8, s9, p3, p4, p5, p6, n0, n1, n2]
      refine ⟨hlt, by omega, ⟨ys, g1, gy⟩, by omega, _, rfl, ?_⟩
      rw [ht]
      exact .inr ⟨n + 1, by omega, by omega, rfl, by rw [upd_ne _ _ (by omega), upd_same]⟩
    · have u3 : t ≠ 2 := by omega
      have u4 : (2 : Nat) ≠ t := by omega
      have u5 : n ≠ t := by omega

      simp (maxSteps := 1000000) (dsimp := false) (disch := omega) only [zwp_skip, zwp_region_f, zwp_seq, zwp_cond, zwp_block, znil_none, nilTest_t, nilOf, zops_nil, zops_none, zstep_eq, zput_some, zput_none, zcond_t, zthen_some, int_lt0, vop, veval, vprt, toVs, toV1, valloc, vstore, vload, vpart, vbuild, vfill, vblit, vlits, zeroElem, vbuiltin, vlen, vbinX, vbin, vint, BinOp.sh, vfaddr, viaddr, vapp, vsrc, vgrow, strip0, upd_at, St.new, St.put, St.tok, V.cells, V.isVal, TD.agg, List.map_cons, List.map_nil, List.getElem?_cons_zero, List.getElem?_cons_succ, List.take_succ_cons, List.take_zero, List.drop_succ_cons, List.drop_zero, List.drop_nil, List.nil_append, List.cons_append, List.append_nil, List.length_cons, List.length_nil, List.length_map, List.replicate_one, List.set_cons_zero, List.isEmpty_cons, List.append_assoc, Option.map_some, Option.any_some, Option.some.injEq, V.i.injEq, true_and, true_or, or_false, and_self, Bool.false_eq_true, Bool.false_and, Bool.and_false, decide_true, decide_false, eq_self, reduceCtorEq, ↓reduceIte, Nat.reduceLT, Nat.reduceLeDiff, Nat.reduceEqDiff, Nat.reduceAdd, Nat.reduceBEq, Nat.zero_add, Nat.add_zero, Nat.le_refl, Nat.one_mul, Int.toNat_natCast, List.cons_ne_nil, ty3, ty22, ty23, ty26, ty27, ty33, ty36, ty52, ty54, ty59, wrap_i64, if_pos, if_neg, f1, f2, f3, f4, g0, g2, hlt', hgx, lb, s1, s2, s3, s4, s5, s7, s8, s9, p3, p4, p5, p6, n0, n1, n2, ltk, t3, u4]
      refine ⟨hlt, by omega, ⟨ys, g1, gy⟩, by omega, _, rfl, ?_⟩
      rw [ht]
      exact .inr ⟨n + 1, by omega, by omega, rfl, by rw [upd_ne _ _ (by omega), upd_same]⟩
  · have hlt' : ¬ (k : Int) < (ins.length : Int) := by omega
    have hke : k = ins.length := by omega
    subst hke
    rw [List.take_length] at hR

    simp (maxSteps := 1000000) (dsimp := false) (disch := omega) only [zwp_region_f, zwp_seq, zwp_cond, zwp_block, zwp_exit, znil_none, nilTest_t, nilOf, zops_nil, zops_none, zstep_eq, zput_some, zcond_f, zthen_some, vop, veval, toVs, toV1, vload, vpart, vbuiltin, vlen, vbinX, vbin, vint, BinOp.sh, vfaddr, upd_at, TD.agg, List.map_cons, List.map_nil, List.getElem?_cons_zero, List.getElem?_cons_succ, List.length_map, Option.map_some, Bool.false_eq_true, decide_false, eq_self, reduceCtorEq, ↓reduceIte, Nat.reduceEqDiff, Nat.zero_add, ty3, ty33, ty36, f1, f4, g0, hlt']
    have hC : (ins = [] ∧ c = .sl 0 [] .clip) ∨ ∃ t, c = .sl 35 (ins.map iv) (.tok t) := by
      rcases hR with ⟨h1, h2⟩ | ⟨t, _, _, h3, _⟩
      · exact .inl ⟨by simpa using h1, h2⟩
      · exact .inr ⟨t, h3⟩
    refine zloop outs.length (fun k fr σ => fr 1 = .ptr 0 0 ∧ fr 2 = .ptr 1 0 ∧ fr 3 = .ptr 2 0 ∧ fr 6 = .i .i64 (k : Int) ∧ σ.h 0 = some (.cells [.i .u32 (ver : Int), .sl 35 (ins.map iv) .no, .sl 2 (outs.map ov) .no, .i .u32 (lock : Int)]) ∧ (∃ ys, σ.h 1 = some (.cells ys) ∧ ys.length = 4) ∧ 3 ≤ σ.n ∧ ∃ c', σ.h 2 = some (.cells [.i .u32 (ver : Int), c, c', .i .u32 (lock : Int)]) ∧ Row1 σ.h σ.n 2 50 ((outs.take k).map ov) c') ⟨f1, f2, f3, rfl, g0, ⟨ys, g1, gy⟩, hn, _, g2, .inl ⟨rfl, rfl⟩⟩ ?_
    clear hlt' g0 g1 gy g2 f1 f2 f3 f4 hR hn hk ys fr h n
    rintro k fr ⟨h, n⟩ hk ⟨f1, f2, f3, f6, g0, ⟨ys, g1, gy⟩, hn, c', g2, hR⟩
    simp only at g0 g1 g2 hn hR
    by_cases hlt : k < outs.length
    · have hlt' : (k : Int) < (outs.length : Int) := by omega
      obtain ⟨⟨v, l⟩, hx⟩ : ∃ x, x = outs[k] := ⟨_, rfl⟩
      have hgx : (outs.map ov)[k]? = some (.agg [.i .u64 (v : Int), .sl 1 (bv l) .no]) := by
        rw [List.getElem?_map, List.getElem?_eq_getElem hlt, ← hx]; rfl
      have ht : (outs.take (k + 1)).map ov = (outs.take k).map ov ++ [.agg [.i .u64 (v : Int), .sl 1 (bv l) .no]] := by
        rw [List.take_add_one, List.getElem?_eq_getElem hlt, ← hx, List.map_append]; rfl
      have n0 : (0 : Nat) ≠ n := by omega
      have n1 : (1 : Nat) ≠ n := by omega
      have n2 : (2 : Nat) ≠ n := by omega
      have u2 : (k + 1) * 10000 ≤ 140737488355328 := by omega
      have ltk : ((outs.take k).map ov).length = k := by rw [List.length_map, List.length_take]; omega
      rcases hR with ⟨he, rfl⟩ | ⟨t, t1, t2, rfl, t3⟩
      · rw [he] at ht

        simp (maxSteps := 1000000) (dsimp := false) (disch := omega) only [zlate_0, zwp_skip, zwp_region_f, zwp_region_t, zwp_seq, zwp_cond, zwp_block, znil_none, nilTest_f, nilTest_t, nilOf, zops_nil, zops_none, zstep_eq, zput_some, zput_none, zcond_t, zthen_some, int_lt0, vop, veval, vprt, toVs, toV1, vstore, vload, vpart, vbuild, vfill, vblit, vlits, zeroElem, vbuiltin, vlen, vbinX, vbin, vint, BinOp.sh, vfaddr, viaddr, vapp, vsrc, vgrow, strip1, stripL, strip0, upd_at, St.put, St.tok, V.cells, V.isVal, TD.agg, List.map_cons, List.map_nil, List.getElem?_cons_zero, List.getElem?_cons_succ, List.take_succ_cons, List.take_zero, List.drop_succ_cons, List.drop_zero, List.drop_nil, List.nil_append, List.cons_append, List.append_nil, List.length_cons, List.length_nil, List.length_map, List.replicate_one, List.set_cons_zero, List.isEmpty_cons, List.isEmpty_nil, Option.map_some, Option.any_some, Option.some.injEq, V.i.injEq, true_and, or_true, or_false, and_self, Bool.false_eq_true, Bool.not_true, Bool.and_true, Bool.and_false, decide_true, eq_self, reduceCtorEq, ↓reduceIte, Nat.reduceLT, Nat.reduceLeDiff, Nat.reduceEqDiff, Nat.reduceAdd, Nat.reduceBEq, Nat.zero_add, Nat.le_refl, Nat.one_mul, Int.toNat_natCast, List.cons_ne_nil, ty3, ty24, ty26, ty27, ty34, ty36, ty48, ty50, ty60, wrap_i64, f1, f2, f3, f6, g0, g2, hlt', hgx, n0, n1, n2]
        refine ⟨hlt, by omega, ⟨ys, g1, gy⟩, by omega, _, rfl, ?_⟩
        rw [ht]
        exact .inr ⟨n, by omega, by omega, rfl, by rw [upd_ne _ _ (by omega), upd_same]⟩
      · have u3 : t ≠ 2 := by omega
        have u4 : (2 : Nat) ≠ t := by omega
        have u5 : n ≠ t := by omega

        simp (maxSteps := 1000000) (dsimp := false) (disch := omega) only [zlate_0, zwp_skip, zwp_region_f, zwp_region_t, zwp_seq, zwp_cond, zwp_block, znil_none, nilTest_f, nilTest_t, nilOf, zops_nil, zops_none, zstep_eq, zput_some, zput_none, zcond_t, zthen_some, int_lt0, vop, veval, vprt, toVs, toV1, vstore, vload, vpart, vbuild, vfill, vblit, vlits, zeroElem, vbuiltin, vlen, vbinX, vbin, vint, BinOp.sh, vfaddr, viaddr, vapp, vsrc, vgrow, strip1, stripL, strip0, upd_at, St.put, St.tok, V.cells, V.isVal, TD.agg, List.map_cons, List.map_nil, List.getElem?_cons_zero, List.getElem?_cons_succ, List.take_succ_cons, List.take_zero, List.drop_succ_cons, List.drop_zero, List.drop_nil, List.nil_append, List.cons_append, List.append_nil, List.length_cons, List.length_nil, List.length_map, List.replicate_one, List.set_cons_zero, List.isEmpty_cons, Option.map_some, Option.any_some, Option.some.injEq, V.i.injEq, true_and, true_or, or_false, and_self, Bool.false_eq_true, Bool.false_and, Bool.and_false, decide_true, decide_false, eq_self, reduceCtorEq, ↓reduceIte, Nat.reduceLT, Nat.reduceLeDiff, Nat.reduceEqDiff, Nat.reduceAdd, Nat.reduceBEq, Nat.zero_add, Nat.le_refl, Nat.one_mul, Int.toNat_natCast, List.cons_ne_nil, ty3, ty24, ty26, ty27, ty34, ty36, ty48, ty50, ty60, wrap_i64, if_pos, if_neg, f1, f2, f3, f6, g0, g2, hlt', hgx, n0, n1, n2, ltk, t3, u4]
        refine ⟨hlt, by omega, ⟨ys, g1, gy⟩, by omega, _, rfl, ?_⟩
        rw [ht]
        exact .inr ⟨n, by omega, by omega, rfl, by rw [upd_ne _ _ (by omega), upd_same]⟩
    · have hlt' : ¬ (k : Int) < (outs.length : Int) := by omega
      have hke : k = outs.length := by omega
      subst hke
      rw [List.take_length] at hR
      rcases hC with ⟨rfl, rfl⟩ | ⟨t, rfl⟩ <;> rcases hR with ⟨he, rfl⟩ | ⟨t', t1, t2, rfl, t3⟩
      · have he0 : outs = [] := by simpa using he
        subst he0

        simp (maxSteps := 1000000) (dsimp := false) (disch := omega) only [zwp_region_f, zwp_seq, zwp_cond, zwp_exit, zwp_ret, znil_none, nilTest_t, nilOf, zops_nil, zops_none, zstep_eq, zput_some, zput_none, zcond_f, zthen_some, vop, veval, vstore, vload, vpart, vbuiltin, vlen, vbinX, vbin, vint, BinOp.sh, vfaddr, strip1, stripL, strip0, strip, upd_at, St.put, V.cells, V.isVal, TD.agg, vret_r, vres, vresL, vseal, List.map_cons, List.map_nil, List.getElem?_cons_zero, List.getElem?_cons_succ, List.take_succ_cons, List.take_zero, List.take_nil, List.drop_zero, List.nil_append, List.cons_append, List.length_cons, List.length_nil, Option.map_some, Option.bind_some, Option.some.injEq, and_self, Bool.false_eq_true, decide_false, eq_self, reduceCtorEq, ↓reduceIte, Nat.reduceLeDiff, Nat.reduceEqDiff, Nat.reduceAdd, Nat.zero_add, Nat.le_refl, Int.reduceLT, exists_eq_left', ty3, ty26, ty34, ty36, Int.cast_ofNat_Int, f1, f2, f3, f6, g0, g2, g1, gy]
        exact .of (.agg (.cons (.refl _) (.cons (.nil _ _ _) (.cons (.nil _ _ _) (.cons (.refl _) .nil)))))
      · skip
        simp (maxSteps := 1000000) (dsimp := false) (disch := omega) only [zwp_region_f, zwp_seq, zwp_cond, zwp_exit, zwp_ret, znil_none, nilTest_t, nilOf, zops_nil, zops_none, zstep_eq, zput_some, zput_none, zcond_f, zthen_some, vop, veval, vstore, vload, vpart, vbuiltin, vlen, vbinX, vbin, vint, BinOp.sh, vfaddr, strip1, stripL, strip0, strip, upd_at, St.put, V.cells, V.isVal, TD.agg, vret_r, vres, vresL, vseal, List.map_cons, List.map_nil, List.getElem?_cons_zero, List.getElem?_cons_succ, List.take_succ_cons, List.take_zero, List.take_nil, List.drop_zero, List.nil_append, List.cons_append, List.length_cons, List.length_nil, List.length_map, Option.map_some, Option.bind_some, Option.some.injEq, and_self, Bool.false_eq_true, decide_false, eq_self, reduceCtorEq, ↓reduceIte, Nat.reduceLeDiff, Nat.reduceEqDiff, Nat.reduceAdd, Nat.zero_add, Nat.le_refl, exists_eq_left', ty3, ty26, ty34, ty36, f1, f2, f3, f6, g0, g2, g1, gy, hlt']
        exact .of (.agg (.cons (.refl _) (.cons (.nil _ _ _) (.cons (.refl _) (.cons (.refl _) .nil)))))
      · have he0 : outs = [] := by simpa using he
        subst he0

        simp (maxSteps := 1000000) (dsimp := false) (disch := omega) only [zwp_region_f, zwp_seq, zwp_cond, zwp_exit, zwp_ret, znil_none, nilTest_t, nilOf, zops_nil, zops_none, zstep_eq, zput_some, zput_none, zcond_f, zthen_some, vop, veval, vstore, vload, vpart, vbuiltin, vlen, vbinX, vbin, vint, BinOp.sh, vfaddr, strip1, stripL, strip0, strip, upd_at, St.put, V.cells, V.isVal, TD.agg, vret_r, vres, vresL, vseal, List.map_cons, List.map_nil, List.getElem?_cons_zero, List.getElem?_cons_succ, List.take_succ_cons, List.take_zero, List.take_nil, List.drop_zero, List.nil_append, List.cons_append, List.length_cons, List.length_nil, Option.map_some, Option.bind_some, Option.some.injEq, and_self, Bool.false_eq_true, decide_false, eq_self, reduceCtorEq, ↓reduceIte, Nat.reduceLeDiff, Nat.reduceEqDiff, Nat.reduceAdd, Nat.zero_add, Nat.le_refl, Int.reduceLT, exists_eq_left', ty3, ty26, ty34, ty36, Int.cast_ofNat_Int, f1, f2, f3, f6, g0, g2, g1, gy]
        exact .of (.agg (.cons (.refl _) (.cons (.refl _) (.cons (.nil _ _ _) (.cons (.refl _) .nil)))))
      · skip
        simp (maxSteps := 1000000) (dsimp := false) (disch := omega) only [zwp_region_f, zwp_seq, zwp_cond, zwp_exit, zwp_ret, znil_none, nilTest_t, nilOf, zops_nil, zops_none, zstep_eq, zput_some, zput_none, zcond_f, zthen_some, vop, veval, vstore, vload, vpart, vbuiltin, vlen, vbinX, vbin, vint, BinOp.sh, vfaddr, strip1, stripL, strip0, strip, upd_at, St.put, V.cells, V.isVal, TD.agg, vret_r, vres, vresL, vseal, List.map_cons, List.map_nil, List.getElem?_cons_zero, List.getElem?_cons_succ, List.take_succ_cons, List.take_zero, List.take_nil, List.drop_zero, List.nil_append, List.cons_append, List.length_cons, List.length_nil, List.length_map, Option.map_some, Option.bind_some, Option.some.injEq, and_self, Bool.false_eq_true, decide_false, eq_self, reduceCtorEq, ↓reduceIte, Nat.reduceLeDiff, Nat.reduceEqDiff, Nat.reduceAdd, Nat.zero_add, Nat.le_refl, exists_eq_left', ty3, ty26, ty34, ty36, f1, f2, f3, f6, g0, g2, g1, gy, hlt']
        exact .refl _

end Go.Proofs.Ytkcapmodgkficaa
