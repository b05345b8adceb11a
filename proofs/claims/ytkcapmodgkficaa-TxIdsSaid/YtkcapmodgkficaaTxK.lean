/- Transactions: Same in full; Id; the law TxIds. -/
import Derived.Test.YtkcapmodgkficaaTxE
import Derived.Test.YtkcapmodgkficaaSha4
namespace Go.Proofs.Ytkcapmodgkficaa
open Go.Vx Go.Fl
set_option maxRecDepth 100000
set_option maxHeartbeats 8000000
set_option linter.unusedSimpArgs false
set_option linter.unusedVariables false

noncomputable def sameT (a b : TxT) : Bool := @decide (a = b) (Classical.propDecidable _)
theorem sameT_t (a : TxT) : sameT a a = true := by simp [sameT]
theorem sameT_f {a b : TxT} (h : ¬ a = b) : sameT a b = false := by simp [sameT, h]
theorem same2_ok (va la : Nat) (ia : List TIn) (oa : List TOut) (vb lb : Nat) (ib : List TIn) (ob : List TOut) (hia : ∀ x ∈ ia, x.1.length = 32) (hib : ∀ x ∈ ib, x.1.length = 32) (h1 : ia.length ≤ 100000) (h2 : oa.length ≤ 100000) (h3 : ib.length ≤ 100000) (h4 : ob.length ≤ 100000) :
    VPure Try.prog 13 [tv (va, ia, oa, la), tv (vb, ib, ob, lb)] (.b (sameT (va, ia, oa, la) (vb, ib, ob, lb))) := by
  have hneq : ¬ ((va, ia, oa, la) : TxT) = (vb, ib, ob, lb) → sameT (va, ia, oa, la) (vb, ib, ob, lb) = false := sameT_f
  refine pure_of_body (tyOf_ok _) mixed Try.func13 rfl rfl (fun _ => 0) (by kernel_rfl) (zin ?_)
  dsimp only [Try.f13]
  by_cases e1 : va = vb
  · by_cases e2 : la = lb
    · by_cases e3 : ia.length = ib.length
      · by_cases e4 : oa.length = ob.length
        · subst e1
          subst e2
          have e3' : (ib.length : Int) = (ia.length : Int) := by omega
          have e4' : (ob.length : Int) = (oa.length : Int) := by omega

          simp (maxSteps := 1000000) (dsimp := false) (disch := omega) only [zwp_skip, zwp_region_f, zwp_seq, zwp_cond, zwp_block, znil_none, nilTest_t, nilOf, zops_nil, zops_none, zops_some, zstep_eq, zput_some, zcond_f, zwant_t, zthen_some, wantedV, vop, veval, toVs, toV1, vbox, vload, vpart, vbuiltin, vlen, vbinX, vbin, vint, BinOp.sh, vfaddr, upd_at, initFr_at, St.new, V.cells, V.isVal, TD.agg, List.map_cons, List.map_nil, List.getElem?_cons_zero, List.getElem?_cons_succ, List.length_map, List.getElem?_toArray, Option.map_some, Option.getD_some, Bool.false_eq_true, Bool.not_true, beq_self_eq_true, eq_self, reduceCtorEq, ↓reduceIte, Nat.reduceEqDiff, Nat.reduceAdd, Nat.zero_add, Nat.add_zero, ty3, ty22, ty23, ty24, ty26, bne, tv, List.length_map, e3', e4']
          refine zloop ia.length (fun k fr σ => fr 2 = .ptr 0 0 ∧ fr 3 = .ptr 1 0 ∧ fr 5 = .i .i64 (k : Int) ∧ σ.h 0 = some (.cells [.i .u32 (va : Int), .sl 35 (ia.map iv) .no, .sl 2 (oa.map ov) .no, .i .u32 (la : Int)]) ∧ σ.h 1 = some (.cells [.i .u32 (va : Int), .sl 35 (ib.map iv) .no, .sl 2 (ob.map ov) .no, .i .u32 (la : Int)]) ∧ 2 ≤ σ.n ∧ ia.take k = ib.take k) ⟨rfl, rfl, rfl, rfl, rfl, Nat.le_refl _, rfl⟩ ?_
          rintro k fr ⟨h, n⟩ hk ⟨f2, f3, f5, g0, g1, hn, hT⟩
          simp only at g0 g1 hn
          by_cases hlt : k < ia.length
          · have hlt' : (k : Int) < (ia.length : Int) := by omega
            have hlb : k < ib.length := by omega
            have hne : ¬ ia[k] = ib[k] → ¬ ((va, ia, oa, la) : TxT) = (va, ib, ob, la) := fun h h' => h (by
              simp only [Prod.mk.injEq, true_and] at h'
              obtain ⟨h', -⟩ := h'
              subst h'; rfl)
            have hTs : ia[k] = ib[k] → ia.take (k + 1) = ib.take (k + 1) := fun h => by
              rw [List.take_add_one, List.take_add_one, List.getElem?_eq_getElem hlt, List.getElem?_eq_getElem hlb, hT, h]
            obtain ⟨⟨hx, i, l, q⟩, ex⟩ : ∃ x, x = ia[k] := ⟨_, rfl⟩
            obtain ⟨⟨hy, i', l', q'⟩, ey⟩ : ∃ x, x = ib[k] := ⟨_, rfl⟩
            have lbx : (bv hx).length = 32 := by
              have := hia ia[k] (List.getElem_mem hlt)
              rw [← ex] at this
              simpa using this
            have lby : (bv hy).length = 32 := by
              have := hib ib[k] (List.getElem_mem hlb)
              rw [← ey] at this
              simpa using this
            have hgx : (ia.map iv)[k]? = some (.agg (bv hx ++ [.i .u32 (i : Int), .sl 1 (bv l) .no, .i .u32 (q : Int)])) := by
              rw [List.getElem?_map, List.getElem?_eq_getElem hlt, ← ex]; rfl
            have hgy : (ib.map iv)[k]? = some (.agg (bv hy ++ [.i .u32 (i' : Int), .sl 1 (bv l') .no, .i .u32 (q' : Int)])) := by
              rw [List.getElem?_map, List.getElem?_eq_getElem hlb, ← ey]; rfl
            rw [← ex, ← ey] at hne hTs
            have s1 : ∀ {L : List UInt8}, (bv L).length = 32 → ∀ x y z : V, (bv L ++ [x, y, z]).length = 35 := fun lb x y z => by rw [List.length_append, lb]; rfl
            have s2 : ∀ {L : List UInt8}, (bv L).length = 32 → ∀ x y z : V, List.take 32 (bv L ++ [x, y, z]) = bv L := fun lb x y z => List.take_left' lb
            have s3 : ∀ {L : List UInt8}, (bv L).length = 32 → ∀ x y z : V, (bv L ++ [x, y, z])[32]? = some x := fun lb x y z => by rw [List.getElem?_append_right (by omega), lb]; rfl
            have s4 : ∀ {L : List UInt8}, (bv L).length = 32 → ∀ x y z : V, (bv L ++ [x, y, z])[33]? = some y := fun lb x y z => by rw [List.getElem?_append_right (by omega), lb]; rfl
            have s5 : ∀ {L : List UInt8}, (bv L).length = 32 → ∀ x y z : V, (bv L ++ [x, y, z])[34]? = some z := fun lb x y z => by rw [List.getElem?_append_right (by omega), lb]; rfl
            have s7 : ∀ {L : List UInt8}, (bv L).length = 32 → ∀ x y z : V, List.drop 35 (bv L ++ [x, y, z]) = [] := fun lb x y z => by rw [List.drop_append, lb, List.drop_eq_nil_of_le (by omega)]; rfl
            have s8 : ∀ {L : List UInt8}, (bv L).length = 32 → ∀ x y z : V, List.take 35 (bv L ++ [x, y, z]) = bv L ++ [x, y, z] := fun lb x y z => List.take_of_length_le (by rw [s1 lb]; exact Nat.le_refl _)
            have x1 := s1 lbx
            have x2 := s2 lbx
            have x3 := s3 lbx
            have x4 := s4 lbx
            have x5 := s5 lbx
            have x7 := s7 lbx
            have x8 := s8 lbx
            have y1 := s1 lby
            have y2 := s2 lby
            have y3 := s3 lby
            have y4 := s4 lby
            have y5 := s5 lby
            have y7 := s7 lby
            have y8 := s8 lby
            clear s1 s2 s3 s4 s5 s7 s8
            have n0 : (0 : Nat) ≠ n := by omega
            have n1 : (1 : Nat) ≠ n := by omega
            have n2 : n ≠ n + 1 := by omega
            by_cases d1 : hx = hy
            · by_cases d2 : i = i'
              · by_cases d3 : l = l'
                · by_cases d4 : q = q'
                  · subst d1
                    subst d2
                    subst d3
                    subst d4
                    have hT2 := hTs rfl

                    simp (maxSteps := 1000000) (dsimp := false) (disch := omega) only [zwp_skip, zwp_region_f, zwp_seq, zwp_cond, zwp_block, znil_none, nilTest_t, nilOf, zops_nil, zops_none, zops_some, zstep_eq, zput_some, zput_none, zcond_t, zcond_f, zwant_t, zthen_some, int_lt0, wantedV, vop, veval, toVs, toV1, valloc, vstore, vload, vpart, vbuiltin, vlen, vbinX, vagg, vbin, vint, BinOp.sh, vconv, vfaddr, viaddr, upd_at, St.new, St.put, V.cells, V.isVal, TD.agg, List.map_cons, List.map_nil, List.getElem?_cons_zero, List.getElem?_cons_succ, List.take_zero, List.drop_succ_cons, List.drop_zero, List.drop_nil, List.nil_append, List.append_nil, List.length_cons, List.length_nil, List.length_map, List.getElem?_toArray, Option.map_some, V.i.injEq, true_and, true_or, and_self, Bool.false_eq_true, Bool.not_true, decide_true, beq_self_eq_true, eq_self, reduceCtorEq, ↓reduceIte, Nat.reduceLeDiff, Nat.reduceEqDiff, Nat.reduceAdd, Nat.zero_add, Nat.add_zero, Nat.le_refl, Int.toNat_natCast, ty3, ty5, ty9, ty22, ty23, ty26, ty27, ty52, ty54, unbv_bv, wrap_i64, bne, if_neg, f2, f3, f5, g0, g1, hlt', hgx, hgy, lbx, x1, x2, x3, x4, x5, x8, n0, n1, n2]
                    exact ⟨hlt, by omega, hT2⟩
                  · have c4 : ¬ (q : Int) = (q' : Int) := by omega
                    have hzz := hneq (hne (by simp [d4]))
                    subst d1
                    subst d2
                    subst d3
                    rw [hzz]

                    simp (maxSteps := 1000000) (dsimp := false) (disch := omega) only [zwp_skip, zwp_region_f, zwp_seq, zwp_cond, zwp_block, zwp_ret, znil_none, nilTest_t, nilOf, zops_nil, zops_none, zops_some, zstep_eq, zput_some, zput_none, zcond_t, zwant_t, zthen_some, int_beq, int_lt0, wantedV, vop, veval, toVs, toV1, valloc, vstore, vload, vpart, vbuiltin, vlen, vbinX, vagg, vbin, vint, BinOp.sh, vconv, vfaddr, viaddr, strip1, strip0, strip, upd_at, St.new, St.put, V.cells, V.isVal, TD.agg, vret_r, vres, vresL, vseal, List.map_cons, List.map_nil, List.getElem?_cons_zero, List.getElem?_cons_succ, List.take_zero, List.drop_succ_cons, List.drop_zero, List.drop_nil, List.nil_append, List.append_nil, List.length_cons, List.length_nil, List.length_map, List.getElem?_toArray, Option.map_some, Option.bind_some, Option.some.injEq, true_or, and_self, Bool.false_eq_true, Bool.not_true, Bool.not_false, decide_true, decide_false, beq_self_eq_true, eq_self, reduceCtorEq, ↓reduceIte, Nat.reduceLeDiff, Nat.reduceEqDiff, Nat.reduceAdd, Nat.zero_add, Nat.add_zero, Nat.le_refl, Int.toNat_natCast, exists_eq_left', Vle_self, ty3, ty5, ty9, ty22, ty23, ty26, ty27, ty52, ty54, unbv_bv, bne, f2, f3, f5, g0, g1, hlt', hgx, hgy, lbx, x1, x2, x3, x4, x5, x8, n1, n2, c4]
                · have c3 : (l == l') = false := by simpa using d3
                  have hzz := hneq (hne (by simp [d3]))
                  subst d1
                  subst d2
                  rw [hzz]

                  simp (maxSteps := 1000000) (dsimp := false) (disch := omega) only [zwp_skip, zwp_region_f, zwp_seq, zwp_cond, zwp_block, zwp_ret, znil_none, nilTest_t, nilOf, zops_nil, zops_none, zops_some, zstep_eq, zput_some, zput_none, zcond_t, zwant_t, zwant_f, zthen_some, int_lt0, wantedV, vop, veval, toVs, toV1, valloc, vstore, vload, vpart, vbuiltin, vlen, vbinX, vagg, vbin, vint, BinOp.sh, vconv, vfaddr, viaddr, strip1, strip0, strip, upd_at, St.new, St.put, V.cells, V.isVal, TD.agg, vret_r, vres, vresL, vseal, List.map_cons, List.map_nil, List.getElem?_cons_zero, List.getElem?_cons_succ, List.take_zero, List.drop_succ_cons, List.drop_zero, List.drop_nil, List.nil_append, List.append_nil, List.length_cons, List.length_nil, List.length_map, List.getElem?_toArray, Option.map_some, Option.bind_some, Option.some.injEq, true_or, and_self, Bool.false_eq_true, Bool.not_true, Bool.not_false, decide_true, beq_self_eq_true, eq_self, reduceCtorEq, ↓reduceIte, Nat.reduceLeDiff, Nat.reduceEqDiff, Nat.reduceAdd, Nat.zero_add, Nat.add_zero, Nat.le_refl, Int.toNat_natCast, beq_false, exists_eq_left', Vle_self, ty3, ty5, ty9, ty22, ty23, ty26, ty27, ty52, ty54, unbv_bv, bne, f2, f3, f5, g0, g1, hlt', hgx, hgy, lbx, x1, x2, x3, x4, x8, n1, n2, c3]
              · have c2 : ¬ (i : Int) = (i' : Int) := by omega
                have hzz := hneq (hne (by simp [d2]))
                subst d1
                rw [hzz]

                simp (maxSteps := 1000000) (dsimp := false) (disch := omega) only [zwp_skip, zwp_region_f, zwp_seq, zwp_cond, zwp_block, zwp_ret, znil_none, nilTest_t, nilOf, zops_nil, zops_none, zops_some, zstep_eq, zput_some, zput_none, zcond_t, zwant_t, zwant_f, zthen_some, int_beq, int_lt0, wantedV, vop, veval, toVs, toV1, valloc, vstore, vload, vpart, vbuiltin, vlen, vbinX, vagg, vbin, vint, BinOp.sh, vfaddr, viaddr, strip1, strip0, strip, upd_at, St.new, St.put, V.cells, V.isVal, TD.agg, vret_r, vres, vresL, vseal, List.map_cons, List.map_nil, List.getElem?_cons_zero, List.getElem?_cons_succ, List.take_zero, List.drop_succ_cons, List.drop_zero, List.drop_nil, List.nil_append, List.append_nil, List.length_cons, List.length_nil, List.length_map, List.getElem?_toArray, Option.map_some, Option.bind_some, Option.some.injEq, and_self, Bool.false_eq_true, Bool.not_true, Bool.not_false, decide_true, decide_false, beq_self_eq_true, eq_self, reduceCtorEq, ↓reduceIte, Nat.reduceLeDiff, Nat.reduceEqDiff, Nat.reduceAdd, Nat.zero_add, Nat.add_zero, Nat.le_refl, Int.toNat_natCast, beq_false, exists_eq_left', Vle_self, ty3, ty5, ty22, ty23, ty26, ty52, ty54, unbv_bv, bne, f2, f3, f5, g0, g1, hlt', hgx, hgy, lbx, x1, x2, x3, x8, n1, n2, c2]
            · have c1 : (hx == hy) = false := by simpa using d1
              have hzz := hneq (hne (by simp [d1]))
              rw [hzz]

              simp (maxSteps := 1000000) (dsimp := false) (disch := omega) only [zwp_skip, zwp_region_f, zwp_seq, zwp_cond, zwp_block, zwp_ret, znil_none, nilTest_t, nilOf, zops_nil, zops_none, zops_some, zstep_eq, zput_some, zput_none, zcond_t, zwant_f, zthen_some, int_lt0, wantedV, vop, veval, toVs, toV1, valloc, vstore, vload, vpart, vbuiltin, vlen, vbinX, vagg, vbin, vint, BinOp.sh, vfaddr, viaddr, strip1, strip0, strip, upd_at, St.new, St.put, V.cells, V.isVal, TD.agg, vret_r, vres, vresL, vseal, List.map_cons, List.map_nil, List.getElem?_cons_zero, List.getElem?_cons_succ, List.take_zero, List.drop_succ_cons, List.drop_zero, List.drop_nil, List.nil_append, List.append_nil, List.length_cons, List.length_nil, List.length_map, List.getElem?_toArray, Option.map_some, Option.bind_some, Option.some.injEq, and_self, Bool.false_eq_true, Bool.not_true, Bool.not_false, decide_true, eq_self, reduceCtorEq, ↓reduceIte, Nat.reduceLeDiff, Nat.reduceEqDiff, Nat.reduceAdd, Nat.zero_add, Nat.add_zero, Nat.le_refl, Int.toNat_natCast, beq_false, exists_eq_left', Vle_self, ty3, ty5, ty23, ty26, ty52, ty54, unbv_bv, bne, f2, f3, f5, g0, g1, hlt', hgx, hgy, lbx, lby, x1, x2, x8, y1, y2, y8, n1, n2, c1]
          · have hlt' : ¬ (k : Int) < (ia.length : Int) := by omega
            have hia2 : ia = ib := by rw [List.take_of_length_le (by omega), List.take_of_length_le (by omega)] at hT; exact hT
            subst hia2

            simp (maxSteps := 1000000) (dsimp := false) (disch := omega) only [zwp_region_f, zwp_seq, zwp_cond, zwp_block, zwp_exit, znil_none, nilTest_t, nilOf, zops_nil, zops_none, zstep_eq, zput_some, zcond_f, zthen_some, vop, veval, toVs, toV1, vload, vpart, vbuiltin, vlen, vbinX, vbin, vint, BinOp.sh, vfaddr, upd_at, TD.agg, List.map_cons, List.map_nil, List.getElem?_cons_zero, List.getElem?_cons_succ, List.length_map, Option.map_some, Bool.false_eq_true, decide_false, eq_self, reduceCtorEq, ↓reduceIte, Nat.reduceEqDiff, Nat.zero_add, ty3, ty23, ty26, f2, f5, g0, hlt']
            refine zloop oa.length (fun k fr σ => fr 2 = .ptr 0 0 ∧ fr 3 = .ptr 1 0 ∧ fr 8 = .i .i64 (k : Int) ∧ σ.h 0 = some (.cells [.i .u32 (va : Int), .sl 35 (ia.map iv) .no, .sl 2 (oa.map ov) .no, .i .u32 (la : Int)]) ∧ σ.h 1 = some (.cells [.i .u32 (va : Int), .sl 35 (ia.map iv) .no, .sl 2 (ob.map ov) .no, .i .u32 (la : Int)]) ∧ 2 ≤ σ.n ∧ oa.take k = ob.take k) ⟨f2, f3, rfl, g0, g1, hn, rfl⟩ ?_
            clear hlt' g0 g1 f2 f3 f5 hk hn hT hlt fr h n
            rintro k fr ⟨h, n⟩ hk ⟨f2, f3, f8, g0, g1, hn, hT⟩
            simp only at g0 g1 hn
            by_cases hlt : k < oa.length
            · have hlt' : (k : Int) < (oa.length : Int) := by omega
              have hlb : k < ob.length := by omega
              have hne : ¬ oa[k] = ob[k] → ¬ ((va, ia, oa, la) : TxT) = (va, ia, ob, la) := fun h h' => h (by
                simp only [Prod.mk.injEq, true_and, and_true] at h'
                subst h'; rfl)
              have hTs : oa[k] = ob[k] → oa.take (k + 1) = ob.take (k + 1) := fun h => by
                rw [List.take_add_one, List.take_add_one, List.getElem?_eq_getElem hlt, List.getElem?_eq_getElem hlb, hT, h]
              obtain ⟨⟨v, l⟩, ex⟩ : ∃ x, x = oa[k] := ⟨_, rfl⟩
              obtain ⟨⟨v', l'⟩, ey⟩ : ∃ x, x = ob[k] := ⟨_, rfl⟩
              have hgx : (oa.map ov)[k]? = some (.agg [.i .u64 (v : Int), .sl 1 (bv l) .no]) := by
                rw [List.getElem?_map, List.getElem?_eq_getElem hlt, ← ex]; rfl
              have hgy : (ob.map ov)[k]? = some (.agg [.i .u64 (v' : Int), .sl 1 (bv l') .no]) := by
                rw [List.getElem?_map, List.getElem?_eq_getElem hlb, ← ey]; rfl
              rw [← ex, ← ey] at hne hTs
              by_cases d1 : v = v'
              · by_cases d2 : l = l'
                · subst d1
                  subst d2
                  have hT2 := hTs rfl

                  simp (maxSteps := 1000000) (dsimp := false) (disch := omega) only [zlate_0, zwp_skip, zwp_region_f, zwp_region_t, zwp_seq, zwp_cond, zwp_block, znil_none, nilTest_f, nilTest_t, nilOf, zops_nil, zops_none, zops_some, zstep_eq, zput_some, zcond_t, zcond_f, zwant_t, zthen_some, int_lt0, wantedV, vop, veval, toVs, toV1, vload, vpart, vbuiltin, vlen, vbinX, vbin, vint, BinOp.sh, vconv, vfaddr, viaddr, upd_at, V.cells, TD.agg, List.map_cons, List.map_nil, List.getElem?_cons_zero, List.getElem?_cons_succ, List.drop_succ_cons, List.drop_zero, List.length_map, List.getElem?_toArray, Option.map_some, V.i.injEq, true_and, true_or, Bool.false_eq_true, Bool.not_true, decide_true, beq_self_eq_true, eq_self, reduceCtorEq, ↓reduceIte, Nat.reduceEqDiff, Nat.zero_add, Int.toNat_natCast, ty3, ty5, ty9, ty24, ty26, ty27, ty48, ty50, unbv_bv, wrap_i64, bne, f2, f3, f8, g0, g1, hlt', hgx, hgy]
                  exact ⟨hlt, by omega, hn, hT2⟩
                · have c2 : (l == l') = false := by simpa using d2
                  have hzz := hneq (hne (by simp [d2]))
                  subst d1
                  rw [hzz]

                  simp (maxSteps := 1000000) (dsimp := false) (disch := omega) only [zlate_0, zwp_skip, zwp_region_f, zwp_region_t, zwp_seq, zwp_cond, zwp_block, zwp_ret, znil_none, nilTest_f, nilTest_t, nilOf, zops_nil, zops_none, zops_some, zstep_eq, zput_some, zcond_t, zwant_t, zthen_some, int_lt0, wantedV, vop, veval, toVs, toV1, vload, vpart, vbuiltin, vlen, vbinX, vbin, vint, BinOp.sh, vconv, vfaddr, viaddr, strip1, strip0, strip, upd_at, V.cells, TD.agg, vret_r, vres, vresL, vseal, List.map_cons, List.map_nil, List.getElem?_cons_zero, List.getElem?_cons_succ, List.drop_succ_cons, List.drop_zero, List.length_map, List.getElem?_toArray, Option.map_some, Option.bind_some, Option.some.injEq, true_or, Bool.false_eq_true, Bool.not_true, Bool.not_false, decide_true, beq_self_eq_true, eq_self, reduceCtorEq, ↓reduceIte, Nat.reduceEqDiff, Nat.zero_add, Int.toNat_natCast, exists_eq_left', Vle_self, ty3, ty5, ty9, ty24, ty26, ty27, ty48, ty50, unbv_bv, bne, f2, f3, f8, g0, g1, hlt', hgx, hgy, c2]
              · have c1 : ¬ (v : Int) = (v' : Int) := by omega
                have hzz := hneq (hne (by simp [d1]))
                rw [hzz]

                simp (maxSteps := 1000000) (dsimp := false) (disch := omega) only [zlate_0, zwp_skip, zwp_region_f, zwp_region_t, zwp_seq, zwp_cond, zwp_block, zwp_ret, znil_none, nilTest_f, nilTest_t, nilOf, zops_nil, zops_none, zops_some, zstep_eq, zput_some, zcond_t, zwant_f, zthen_some, int_beq, int_lt0, wantedV, vop, veval, toVs, toV1, vload, vpart, vbuiltin, vlen, vbinX, vbin, vint, BinOp.sh, vfaddr, viaddr, strip1, strip0, strip, upd_at, V.cells, TD.agg, vret_r, vres, vresL, vseal, List.map_cons, List.map_nil, List.getElem?_cons_zero, List.getElem?_cons_succ, List.drop_zero, List.length_map, List.getElem?_toArray, Option.map_some, Option.bind_some, Option.some.injEq, Bool.false_eq_true, Bool.not_true, Bool.not_false, decide_true, decide_false, eq_self, reduceCtorEq, ↓reduceIte, Nat.reduceEqDiff, Nat.zero_add, Int.toNat_natCast, beq_false, exists_eq_left', Vle_self, ty3, ty24, ty26, ty48, ty50, bne, f2, f3, f8, g0, g1, hlt', hgx, hgy, c1]
            · have hlt' : ¬ (k : Int) < (oa.length : Int) := by omega
              have hoa2 : oa = ob := by rw [List.take_of_length_le (by omega), List.take_of_length_le (by omega)] at hT; exact hT
              subst hoa2
              rw [sameT_t]

              simp (maxSteps := 1000000) (dsimp := false) (disch := omega) only [zwp_region_f, zwp_seq, zwp_cond, zwp_exit, zwp_ret, znil_none, nilTest_t, nilOf, zops_nil, zops_none, zstep_eq, zput_some, zcond_f, zthen_some, vop, veval, toVs, toV1, vload, vpart, vbuiltin, vlen, vbinX, vbin, vint, BinOp.sh, vfaddr, strip1, strip0, strip, upd_at, TD.agg, vret_r, vres, vresL, vseal, List.map_cons, List.map_nil, List.getElem?_cons_zero, List.getElem?_cons_succ, List.length_map, Option.map_some, Option.bind_some, Option.some.injEq, Bool.false_eq_true, decide_false, eq_self, reduceCtorEq, ↓reduceIte, Nat.reduceEqDiff, Nat.zero_add, exists_eq_left', Vle_self, ty3, ty24, ty26, f2, f8, g0, hlt']
        · have c4 : ¬ (oa.length : Int) = (ob.length : Int) := by omega
          have e3' : (ib.length : Int) = (ia.length : Int) := by omega
          have hzz := hneq (fun h => e4 (by simp only [Prod.mk.injEq] at h; rw [h.2.2.1]))
          rw [hzz]
          subst e1
          subst e2

          simp (maxSteps := 1000000) (dsimp := false) (disch := omega) only [zwp_region_f, zwp_seq, zwp_cond, zwp_ret, znil_none, nilTest_t, nilOf, zops_nil, zops_none, zops_some, zstep_eq, zput_some, zcond_t, zwant_t, zthen_some, int_beq, wantedV, vop, veval, toVs, toV1, vbox, vload, vpart, vbuiltin, vlen, vbinX, vbin, vint, BinOp.sh, vfaddr, strip1, strip0, strip, upd_at, initFr_at, St.new, V.cells, V.isVal, TD.agg, vret_r, vres, vresL, vseal, List.map_cons, List.map_nil, List.getElem?_cons_zero, List.getElem?_cons_succ, List.length_map, List.getElem?_toArray, Option.map_some, Option.getD_some, Option.bind_some, Option.some.injEq, Bool.false_eq_true, Bool.not_true, Bool.not_false, decide_false, beq_self_eq_true, eq_self, reduceCtorEq, ↓reduceIte, Nat.reduceEqDiff, Nat.reduceAdd, Nat.zero_add, Nat.add_zero, exists_eq_left', Vle_self, ty3, ty22, ty23, ty24, ty26, bne, tv, List.length_map, e3', c4]
      · have c3 : ¬ (ia.length : Int) = (ib.length : Int) := by omega
        have hzz := hneq (fun h => e3 (by simp only [Prod.mk.injEq] at h; rw [h.2.1]))
        rw [hzz]
        subst e1
        subst e2

        simp (maxSteps := 1000000) (dsimp := false) (disch := omega) only [zwp_region_f, zwp_seq, zwp_cond, zwp_ret, znil_none, nilTest_t, nilOf, zops_nil, zops_none, zops_some, zstep_eq, zput_some, zcond_t, zwant_t, zwant_f, zthen_some, int_beq, wantedV, vop, veval, toVs, toV1, vbox, vload, vpart, vbuiltin, vlen, vbinX, vbin, vint, BinOp.sh, vfaddr, strip1, strip0, strip, upd_at, initFr_at, St.new, V.cells, V.isVal, TD.agg, vret_r, vres, vresL, vseal, List.map_cons, List.map_nil, List.getElem?_cons_zero, List.getElem?_cons_succ, List.length_map, List.getElem?_toArray, Option.map_some, Option.getD_some, Option.bind_some, Option.some.injEq, Bool.false_eq_true, Bool.not_true, Bool.not_false, decide_false, beq_self_eq_true, eq_self, reduceCtorEq, ↓reduceIte, Nat.reduceEqDiff, Nat.reduceAdd, Nat.zero_add, Nat.add_zero, beq_false, exists_eq_left', Vle_self, ty3, ty22, ty23, ty26, bne, tv, List.length_map, c3]
    · have c2 : ¬ (la : Int) = (lb : Int) := by omega
      have hzz := hneq (fun h => e2 (by simp only [Prod.mk.injEq] at h; exact h.2.2.2))
      rw [hzz]
      subst e1

      simp (maxSteps := 1000000) (dsimp := false) (disch := omega) only [zwp_region_f, zwp_seq, zwp_cond, zwp_ret, znil_none, nilTest_t, nilOf, zops_nil, zops_none, zops_some, zstep_eq, zput_some, zcond_t, zwant_t, zwant_f, zthen_some, int_beq, wantedV, vop, veval, toVs, toV1, vbox, vload, vpart, vbinX, vbin, vint, BinOp.sh, vfaddr, strip1, strip0, strip, upd_at, initFr_at, St.new, V.cells, V.isVal, TD.agg, vret_r, vres, vresL, vseal, List.getElem?_cons_zero, List.getElem?_cons_succ, List.getElem?_toArray, Option.map_some, Option.getD_some, Option.bind_some, Option.some.injEq, Bool.false_eq_true, Bool.not_true, Bool.not_false, decide_false, beq_self_eq_true, eq_self, reduceCtorEq, ↓reduceIte, Nat.reduceEqDiff, Nat.reduceAdd, Nat.zero_add, Nat.add_zero, beq_false, exists_eq_left', Vle_self, ty22, ty26, bne, tv, c2]
  · have c1 : ¬ (va : Int) = (vb : Int) := by omega
    have hzz := hneq (fun h => e1 (by simp only [Prod.mk.injEq] at h; exact h.1))
    rw [hzz]

    simp (maxSteps := 1000000) (dsimp := false) (disch := omega) only [zwp_region_f, zwp_seq, zwp_cond, zwp_ret, znil_none, nilTest_t, nilOf, zops_nil, zops_none, zops_some, zstep_eq, zput_some, zcond_t, zwant_f, zthen_some, int_beq, wantedV, vop, veval, toVs, toV1, vbox, vload, vpart, vbinX, vbin, vint, BinOp.sh, vfaddr, strip1, strip0, strip, upd_at, initFr_at, St.new, V.cells, V.isVal, TD.agg, vret_r, vres, vresL, vseal, List.getElem?_cons_zero, List.getElem?_cons_succ, List.getElem?_toArray, Option.map_some, Option.getD_some, Option.bind_some, Option.some.injEq, Bool.false_eq_true, Bool.not_true, Bool.not_false, decide_false, eq_self, reduceCtorEq, ↓reduceIte, Nat.reduceEqDiff, Nat.reduceAdd, Nat.zero_add, Nat.add_zero, beq_false, exists_eq_left', Vle_self, ty22, ty26, bne, tv, c1]

theorem id_ok (t : TxT) (ht : TxOk t) (hs : saneT t = true) (hl : (txB t).length ≤ 50000000) : VPure Try.prog 16 [tv t] (.tup [.agg (bv (dblE (txB t))), .i .i64 0]) := by
  have P := tput_ok t ht hs
  have D := double_ok (txB t) hl
  have h2 := dblE_length (txB t)
  generalize dblE (txB t) = O at *
  generalize txB t = B at *
  obtain ⟨ver, ins, outs, lock⟩ := t
  have ht' : List.take 32 (bv O) = bv O := List.take_of_length_le (by simp; omega)
  have ho : (bv O).all V.one = true := bv_all _
  have hd : List.drop 32 (List.replicate 32 (V.i .u8 0)) = [] := rfl
  refine pure_of_body (tyOf_ok _) mixed Try.func16 rfl rfl (fun _ => 0) (by kernel_rfl) (zin ?_)
  dsimp only [Try.f16]

  simp (maxSteps := 1000000) (dsimp := false) (disch := omega) only [zwp_region_f, zwp_seq, znil_none, nilTest_t, nilOf, zops_nil, zops_none, zstep_eq, zput_some, zthen_some, zfn_fn, vop, veval, toVs, toV1, valloc, vbox, vload, vpart, strip1, stripL, strip0, upd_at, initFr_at, St.new, hintOf, V.cells, V.isVal, TD.agg, varg1, varg, vargs, List.map_cons, List.map_nil, List.getElem?_cons_zero, List.take_succ_cons, List.take_nil, List.drop_zero, List.append_nil, List.length_cons, List.length_nil, Option.map_some, Option.getD_some, Bool.or_false, eq_self, reduceCtorEq, ↓reduceIte, Nat.reduceEqDiff, Nat.reduceAdd, Nat.zero_add, Nat.le_refl, ty36, ty52, tv]
  refine zcall_pure (P) (by first | exact fun h => Bool.noConfusion h | exact fun _ => rfl | exact fun _ => free_bv _ _ _) ?_
  simp (maxSteps := 1000000) (dsimp := false) (disch := omega) only [zwp_skip, zwp_region_f, zwp_seq, zwp_cond, znil_none, nilTest_t, nilOf, zops_nil, zops_none, zstep_eq, zput_some, zcond_f, zthen_some, zfn_fn, vop, veval, toVs, toV1, vbinX, vbin, vint, BinOp.sh, vext, strip1, strip0, upd_at, vrecv, hintOf, varg1, varg, vargs, List.map_cons, List.map_nil, List.getElem?_cons_zero, List.getElem?_cons_succ, List.append_nil, Option.map_some, Bool.false_eq_true, Bool.not_true, Bool.or_false, beq_self_eq_true, eq_self, ↓reduceIte, Nat.reduceEqDiff, ty30, bne]
  refine zcall_pure (D) (by first | exact fun h => Bool.noConfusion h | exact fun _ => rfl | exact fun _ => free_bv _ _ _) ?_
  simp (maxSteps := 1000000) (dsimp := false) (disch := omega) only [zwp_ret, znil_none, nilTest_t, nilOf, zops_nil, zops_none, zstep_eq, zput_some, zput_none, zthen_some, vop, veval, toVs, toV1, vstore, vload, vpart, strip1, strip0, stripTL, strip, upd_at, St.put, vrecv, V.cells, V.isVal, TD.agg, vret_r, vres, vresL, vseal, List.take_zero, List.drop_zero, List.nil_append, List.append_nil, List.length_replicate, Option.map_some, Option.bind_some, Option.some.injEq, and_self, eq_self, ↓reduceIte, Nat.reduceEqDiff, Nat.zero_add, Nat.le_refl, exists_eq_left', Vle_self, ty52, bv_length, bv_length, h2, ht', hd, strB]
theorem id_no (t : TxT) (ht : TxOk t) (hs : saneT t = false) (Z : List UInt8) (hZ : Z = List.replicate 32 0) : VPure Try.prog 16 [tv t] (.tup [.agg (bv Z), .i .i64 3]) := by
  have P := tput_no t ht hs
  have hrep : List.replicate 32 (V.i .u8 0) = bv Z := by rw [hZ]; rfl
  have hl : Z.length = 32 := by rw [hZ]; rfl
  clear hZ
  have ht' : List.take 32 (bv Z) = bv Z := List.take_of_length_le (by simp; omega)
  have ho : (bv Z).all V.one = true := bv_all _
  have hd : List.drop 32 (bv Z) = [] := List.drop_eq_nil_of_le (by simp; omega)
  obtain ⟨ver, ins, outs, lock⟩ := t
  refine pure_of_body (tyOf_ok _) mixed Try.func16 rfl rfl (fun _ => 0) (by kernel_rfl) (zin ?_)
  dsimp only [Try.f16]

  simp (maxSteps := 1000000) (dsimp := false) (disch := omega) only [zwp_region_f, zwp_seq, znil_none, nilTest_t, nilOf, zops_nil, zops_none, zstep_eq, zput_some, zthen_some, zfn_fn, vop, veval, toVs, toV1, valloc, vbox, vload, vpart, strip1, stripL, strip0, upd_at, initFr_at, St.new, hintOf, V.cells, V.isVal, TD.agg, varg1, varg, vargs, List.map_cons, List.map_nil, List.getElem?_cons_zero, List.take_succ_cons, List.take_nil, List.drop_zero, List.append_nil, List.length_cons, List.length_nil, Option.map_some, Option.getD_some, Bool.or_false, eq_self, reduceCtorEq, ↓reduceIte, Nat.reduceEqDiff, Nat.reduceAdd, Nat.zero_add, Nat.le_refl, ty36, ty52, tv, hrep]
  refine zcall_pure (P) (by first | exact fun h => Bool.noConfusion h | exact fun _ => rfl | exact fun _ => free_bv _ _ _) ?_
  simp (maxSteps := 1000000) (dsimp := false) (disch := omega) only [zwp_region_f, zwp_seq, zwp_cond, zwp_ret, znil_none, nilTest_t, nilOf, zops_nil, zops_none, zstep_eq, zput_some, zput_none, zcond_t, zthen_some, int_beq, vop, veval, toVs, toV1, vstore, vload, vpart, vbuild, vfill, vbinX, vbin, vint, BinOp.sh, vext, strip1, strip0, stripTL, strip, upd_at, St.put, vrecv, V.cells, V.isVal, TD.agg, vret_r, vres, vresL, vseal, List.map_nil, List.getElem?_cons_zero, List.getElem?_cons_succ, List.take_zero, List.drop_zero, List.nil_append, List.append_nil, Option.map_some, Option.bind_some, Option.some.injEq, and_self, Bool.false_eq_true, Bool.not_false, decide_false, eq_self, ↓reduceIte, Nat.reduceEqDiff, Nat.zero_add, Nat.le_refl, Nat.mul_one, Int.reduceEq, exists_eq_left', Vle_self, ty5, ty30, ty52, bv_length, bne, bv_length, hrep, hl, ht', hd, strB]
end Go.Proofs.Ytkcapmodgkficaa
