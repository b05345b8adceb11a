/- Transactions: the law TxTouches. -/
import Derived.Test.YtkcapmodgkficaaTxF
namespace Go.Proofs.Ytkcapmodgkficaa
open Go.Vx Go.Fl
set_option maxRecDepth 100000
set_option maxHeartbeats 8000000
set_option linter.unusedSimpArgs false
set_option linter.unusedVariables false

theorem hash_of {u : V} (H : HasT true (List.replicate 32 (.int .u8)) u) : ∃ h : List UInt8, u = hv h ∧ h.length = 32 := by
  obtain ⟨vs, hl, h, ha, -⟩ := H
  have := ha rfl
  subst this
  have hl' : vs.length = 32 := hl
  obtain ⟨l, rfl⟩ := bytes_of (vs := vs) fun e he => by
    obtain ⟨j, hj⟩ := List.mem_iff_getElem?.1 he
    have hlt := (List.getElem?_eq_some_iff.1 hj).1
    rw [hl'] at hlt
    refine h j _ _ ?_ hj
    match j, hlt with
    | 0, _ | 1, _ | 2, _ | 3, _ | 4, _ | 5, _ | 6, _ | 7, _ | 8, _ | 9, _ | 10, _ | 11, _ | 12, _ | 13, _ | 14, _ | 15, _ | 16, _ | 17, _ | 18, _ | 19, _ | 20, _ | 21, _ | 22, _ | 23, _ | 24, _ | 25, _ | 26, _ | 27, _ | 28, _ | 29, _ | 30, _ | 31, _ => rfl
    | j + 32, hh => exact absurd hh (by omega)
  exact ⟨l, rfl, by simpa using hl'⟩
theorem hashes_of {u : V} (H : HasT false [.sl true (List.replicate 32 (.int .u8))] u) : ∃ l : List (List UInt8), u = .sl 32 (l.map hv) .no ∧ ∀ h ∈ l, h.length = 32 := by
  obtain ⟨es, rfl, -, he⟩ := H.one.sl'
  obtain ⟨l, rfl, hl⟩ := list_of' (enc := hv) (Q := fun h => h.length = 32) fun e h => hash_of (he e h)
  exact ⟨l, rfl, hl⟩
theorem scripts_of {u : V} (H : HasT false [.sl false [.sl false [.int .u8]]] u) : ∃ l : List (List UInt8), u = .sl 1 (l.map sb) .no := by
  obtain ⟨es, rfl, -, he⟩ := H.one.sl'
  obtain ⟨l, rfl⟩ := list_of (enc := sb) fun e h => by
    obtain ⟨l, rfl, -⟩ := (he e h).one.bytes
    exact ⟨l, rfl⟩
  exact ⟨l, rfl⟩
theorem touchB_or (t : TxT) (a b : List (List UInt8)) : touchB t a b = (touchB t a [] || touchB t [] b) := by
  have h1 : t.2.2.1.any (outHit []) = false := by simp [outHit]
  have h2 : t.2.1.any (inHit []) = false := by simp [inHit]
  simp only [touchB, h1, h2, Bool.or_false, Bool.false_or]
theorem touchB_nil (t : TxT) : touchB t [] [] = false := by simp [touchB, outHit, inHit]
theorem touchB_out {t : TxT} {a : List (List UInt8)} {i : Nat} (hi : i < t.2.2.1.length) : touchB t (a ++ [t.2.2.1[i].2]) [] = true := by
  simp only [touchB, Bool.or_eq_true]
  exact .inl (List.any_eq_true.2 ⟨_, List.getElem_mem hi, by simp [outHit]⟩)
theorem touchB_in {t : TxT} {a : List (List UInt8)} {i : Nat} (hi : i < t.2.1.length) : touchB t [] (a ++ [t.2.1[i].1]) = true := by
  simp only [touchB, Bool.or_eq_true]
  exact .inr (List.any_eq_true.2 ⟨_, List.getElem_mem hi, by simp [inHit]⟩)

theorem touch_ok (t : TxT) (ht : TxOk t) (scripts spent : List (List UInt8)) (hl : ∀ h ∈ spent, h.length = 32) (k : Int) : VPure Try.prog 5 [tv t, .sl 1 (scripts.map sb) .no, .sl 32 (spent.map hv) .no, .i .i64 k] (.b true) := by
  have e1 := touches_ok t ht scripts [] (fun h hh => by cases hh) (by simp)
  have e2 := touches_ok t ht [] spent hl
  have e3 := touches_ok t ht [] [] (fun h hh => by cases hh) (by simp)
  have e4 := touches_ok t ht scripts spent hl
  rw [touchB_or] at e4
  rw [touchB_nil] at e3
  have e5 := touches_ok (0, [], [], 0) ⟨by decide, by simp, by simp, by decide⟩ scripts spent hl
  have ho : ∀ i (hi : i < t.2.2.1.length), _ := fun i hi => touches_ok t ht (scripts ++ [t.2.2.1[i].2]) [] (fun h hh => by cases hh) (by simp)
  have hin' : ∀ i (hi : i < t.2.1.length), spent.length ≤ 20 → _ := fun i hi h20 => touches_ok t ht [] (spent ++ [t.2.1[i].1]) (fun h hh => by
    rcases List.mem_append.1 hh with hh | hh
    · exact hl h hh
    · simp only [List.mem_singleton] at hh
      rw [hh]; exact (ht.2.1 _ (List.getElem_mem hi)).1) (by simp; omega)
  have hto := @touchB_out t scripts
  have hti := @touchB_in t spent
  obtain ⟨ver, ins, outs, lock⟩ := t
  obtain ⟨hver, hin, hout, hlock⟩ := ht
  simp only at hver hin hout hlock ho hin' hto hti
  have F := few_ok ver lock ins outs fun x hx => (hin x hx).1
  have hff : fewT (ver, ins, outs, lock) = true → ins.length ≤ 20 ∧ outs.length ≤ 20 := by
    simp only [fewT, Bool.and_eq_true, decide_eq_true_eq]; omega
  refine pure_of_body (tyOf_ok _) mixed Try.func5 rfl rfl (fun _ => 0) (by kernel_rfl) (zin ?_)
  dsimp only [Try.f5]

  simp (maxSteps := 1000000) (dsimp := false) (disch := omega) only [zwp_region_f, zwp_seq, znil_none, nilTest_t, nilOf, zops_nil, zops_none, zstep_eq, zput_some, zthen_some, zfn_fn, vop, veval, toVs, toV1, vbox, initFr_at, St.new, hintOf, V.cells, V.isVal, vargs, List.map_nil, List.getElem?_cons_zero, List.append_nil, Option.getD_some, eq_self, ↓reduceIte, Nat.zero_add, tv]
  refine zcall_pure (awake_ok) (by first | exact fun h => Bool.noConfusion h | exact fun _ => rfl | exact fun _ => free_bv _ _ _) ?_
  simp (maxSteps := 1000000) (dsimp := false) (disch := omega) only [zwp_region_f, zwp_seq, znil_none, nilTest_t, nilOf, zops_nil, zops_none, zstep_eq, zput_some, zthen_some, zfn_fn, vop, veval, vload, vpart, strip1, stripL, strip0, upd_at, vrecv, hintOf, TD.agg, varg1, varg, vargs, List.map_cons, List.map_nil, List.take_succ_cons, List.take_nil, List.drop_zero, List.append_nil, List.length_cons, List.length_nil, Option.map_some, Bool.or_false, eq_self, ↓reduceIte, Nat.reduceEqDiff, Nat.reduceAdd, Nat.zero_add, Nat.le_refl, ty26]
  refine zcall_pure (F) (by first | exact fun h => Bool.noConfusion h | exact fun _ => rfl | exact fun _ => free_bv _ _ _) ?_
  cases hf : fewT (ver, ins, outs, lock) with
  | false => simp (maxSteps := 1000000) (dsimp := false) (disch := omega) only [zwp_region_f, zwp_seq, zwp_cond, zwp_ret, znil_none, nilTest_t, nilOf, zops_nil, zops_none, zops_some, zstep_eq, zput_some, zcond_t, zwant_f, zthen_some, wantedV, vop, veval, toVs, toV1, vun, strip1, strip0, strip, upd_at, vrecv, vret_r, vres, vresL, vseal, List.getElem?_cons_zero, List.getElem?_cons_succ, List.getElem?_toArray, Option.map_some, Option.bind_some, Option.some.injEq, Bool.not_true, Bool.not_false, eq_self, ↓reduceIte, Nat.reduceEqDiff, beq_false, exists_eq_left', Vle_self]
  | true =>
    obtain ⟨l1, l2⟩ := hff hf
    have O := ours_ok ver lock ins outs (fun x hx => (hin x hx).1) (by omega) (by omega)
    by_cases hm : scripts.length ≤ 20
    · have hm' : ¬ (20 : Int) < (scripts.length : Int) := by omega
      by_cases hn : spent.length ≤ 20
      · have hn' : ¬ (20 : Int) < (spent.length : Int) := by omega
        have e2 := e2 (by omega)
        have e4 := e4 (by omega)
        have e5 := e5 (by omega)
        have hn0 : ∀ z, VeqT [tv (ver, ins, outs, lock), .sl z [] .no, .sl 0 [] .no] [tv (ver, ins, outs, lock), .sl z [] .no, .sl 32 [] .no] := fun z => .cons (.refl _) (.cons (.refl _) (.cons (.one (.nil _ _ _)) .nil))
        generalize touchB (ver, ins, outs, lock) scripts [] = qa at *
        generalize touchB (ver, ins, outs, lock) [] spent = qb at *

        simp (maxSteps := 1000000) (dsimp := false) (disch := omega) only [zwp_skip, zwp_region_f, zwp_seq, zwp_cond, znil_none, nilTest_t, nilOf, zops_nil, zops_none, zops_some, zstep_eq, zput_some, zcond_f, zwant_t, zthen_some, zfn_fn, wantedV, vop, veval, toVs, toV1, vload, vpart, vbuiltin, vlen, vbinX, vbin, vint, BinOp.sh, vun, strip1, stripL, strip0, upd_at, initFr_at, vrecv, hintOf, TD.agg, varg1, varg, vargs, List.map_cons, List.map_nil, List.getElem?_cons_zero, List.getElem?_cons_succ, List.take_succ_cons, List.take_nil, List.drop_zero, List.append_nil, List.length_cons, List.length_nil, List.length_map, List.getElem?_toArray, Option.map_some, Option.getD_some, Bool.false_eq_true, Bool.not_true, Bool.or_false, decide_false, beq_self_eq_true, eq_self, ↓reduceIte, Nat.reduceEqDiff, Nat.reduceAdd, Nat.zero_add, Nat.le_refl, ty3, ty26, ty45, ty46, gt_iff_lt, List.length_map, hm', hn']
        refine zcall_pure (O) (by first | exact fun h => Bool.noConfusion h | exact fun _ => rfl | exact fun _ => free_bv _ _ _) ?_
        simp (maxSteps := 1000000) (dsimp := false) (disch := omega) only [zwp_region_f, zwp_seq, znil_none, nilTest_t, nilOf, zops_nil, zops_none, zstep_eq, zput_some, zput_none, zthen_some, zfn_fn, vop, veval, toVs, toV1, valloc, vstore, vload, vpart, strip1, stripL, strip0, upd_at, initFr_at, St.new, St.put, vrecv, hintOf, V.cells, V.isVal, TD.agg, varg1, varg, vargs, List.map_cons, List.map_nil, List.getElem?_cons_zero, List.getElem?_cons_succ, List.take_succ_cons, List.take_zero, List.take_nil, List.drop_succ_cons, List.drop_zero, List.drop_nil, List.nil_append, List.append_nil, List.length_cons, List.length_nil, Option.map_some, Option.getD_some, and_self, Bool.or_false, eq_self, ↓reduceIte, Nat.reduceEqDiff, Nat.reduceAdd, Nat.zero_add, Nat.le_refl, ty36, tv]
        refine zcall_pure (e1.args (.cons (.refl _) (.cons (.refl _) (.cons (.one (.nil _ _ _)) .nil)))) (by first | exact fun h => Bool.noConfusion h | exact fun _ => rfl | exact fun _ => free_bv _ _ _) ?_
        simp (maxSteps := 1000000) (dsimp := false) (disch := omega) only [zwp_region_f, zwp_seq, znil_none, nilTest_t, nilOf, zops_nil, zops_none, zstep_eq, zput_some, zthen_some, zfn_fn, vop, veval, toVs, toV1, vload, vpart, strip1, stripL, strip0, upd_at, initFr_at, vrecv, hintOf, TD.agg, varg1, varg, vargs, List.map_cons, List.map_nil, List.getElem?_cons_zero, List.getElem?_cons_succ, List.take_succ_cons, List.take_nil, List.drop_zero, List.append_nil, List.length_cons, List.length_nil, Option.map_some, Option.getD_some, Bool.or_false, eq_self, ↓reduceIte, Nat.reduceEqDiff, Nat.reduceAdd, Nat.zero_add, Nat.le_refl, ty36]
        refine zcall_pure (e2.args (.cons (.refl _) (.cons (.one (.nil _ _ _)) (.cons (.refl _) .nil)))) (by first | exact fun h => Bool.noConfusion h | exact fun _ => rfl | exact fun _ => free_bv _ _ _) ?_
        simp (maxSteps := 1000000) (dsimp := false) (disch := omega) only [zwp_region_f, zwp_seq, znil_none, nilTest_t, nilOf, zops_nil, zops_none, zstep_eq, zput_some, zthen_some, zfn_fn, vop, veval, toVs, toV1, vload, vpart, strip1, stripL, strip0, upd_at, vrecv, hintOf, TD.agg, varg1, varg, vargs, List.map_cons, List.map_nil, List.take_succ_cons, List.take_nil, List.drop_zero, List.append_nil, List.length_cons, List.length_nil, Option.map_some, Bool.or_false, eq_self, ↓reduceIte, Nat.reduceEqDiff, Nat.reduceAdd, Nat.zero_add, Nat.le_refl, ty36]
        refine zcall_pure (e3.args (.cons (.refl _) (.cons (.one (.nil _ _ _)) (.cons (.one (.nil _ _ _)) .nil)))) (by first | exact fun h => Bool.noConfusion h | exact fun _ => rfl | exact fun _ => free_bv _ _ _) ?_
        simp (maxSteps := 1000000) (dsimp := false) (disch := omega) only [znil_none, nilTest_t, nilOf, zops_none, zops_some, zstep_eq, zput_some, zwant_t, zthen_some, zfn_fn, wantedV, vop, veval, vload, vpart, strip1, stripL, strip0, upd_at, initFr_at, vrecv, hintOf, TD.agg, varg1, varg, vargs, List.map_cons, List.map_nil, List.getElem?_cons_zero, List.getElem?_cons_succ, List.take_succ_cons, List.take_nil, List.drop_zero, List.append_nil, List.length_cons, List.length_nil, List.getElem?_toArray, Option.map_some, Option.getD_some, Bool.or_false, beq_self_eq_true, eq_self, ↓reduceIte, Nat.reduceEqDiff, Nat.reduceAdd, Nat.zero_add, Nat.le_refl, ty36]
        refine zcall_pure (e4) (by first | exact fun h => Bool.noConfusion h | exact fun _ => rfl | exact fun _ => free_bv _ _ _) ?_
        obtain ⟨q, hq, hqe⟩ := and_low k
        have e5' := e5.args (args' := [.agg [.i .u32 0, .sl 0 [] .no, .sl 0 [] .no, .i .u32 0], .sl 1 (scripts.map sb) .no, .sl 32 (spent.map hv) .no])
          (.cons (.agg (.cons (.refl _) (.cons (.nil _ _ _) (.cons (.nil _ _ _) (.cons (.refl _) .nil))))) (.cons (.refl _) (.cons (.refl _) .nil)))
        have hT0 : touchB (0, [], [], 0) scripts spent = false := rfl
        rw [hT0] at e5'
        have c1 : ¬ (0 : Int) < (outs.length : Int) ∨ ∃ (r v : Nat) (l : List UInt8), (0 : Int) < (outs.length : Int) ∧ (q : Int) % (outs.length : Int) = (r : Int) ∧ (outs.map ov)[r]? = some (.agg [.i .u64 (v : Int), .sl 1 (bv l) .no]) ∧
            VPure Try.prog 15 [.agg [.i .u32 (ver : Int), .sl 35 (ins.map iv) .no, .sl 2 (outs.map ov) .no, .i .u32 (lock : Int)], .sl 1 (scripts.map sb ++ [.sl 1 (bv l) .no]) .no, .sl 0 [] .no] (.b true) := by
          rcases Nat.eq_zero_or_pos outs.length with h | h
          · exact .inl (by omega)
          · have hr : q % outs.length < outs.length := Nat.mod_lt _ h
            obtain ⟨⟨v, l⟩, hx⟩ : ∃ x, x = outs[q % outs.length] := ⟨_, rfl⟩
            have e6 := ho _ hr
            rw [hto hr, ← hx] at e6
            simp only [List.map_append, List.map_cons, List.map_nil] at e6
            refine .inr ⟨q % outs.length, v, l, by omega, by omega, ?_, e6.args (.cons (.refl _) (.cons (.refl _) (.cons (.one (.nil _ _ _)) .nil)))⟩
            rw [List.getElem?_map, List.getElem?_eq_getElem hr, ← hx]; rfl
        have c2 : ¬ (0 : Int) < (ins.length : Int) ∨ ∃ (r i q4 : Nat) (hsh l : List UInt8), (0 : Int) < (ins.length : Int) ∧ (q : Int) % (ins.length : Int) = (r : Int) ∧ (ins.map iv)[r]? = some (.agg (bv hsh ++ [.i .u32 (i : Int), .sl 1 (bv l) .no, .i .u32 (q4 : Int)])) ∧ (bv hsh).length = 32 ∧
            VPure Try.prog 15 [.agg [.i .u32 (ver : Int), .sl 35 (ins.map iv) .no, .sl 2 (outs.map ov) .no, .i .u32 (lock : Int)], .sl 0 [] .no, .sl 32 (spent.map hv ++ [.agg (bv hsh)]) .no] (.b true) := by
          rcases Nat.eq_zero_or_pos ins.length with h | h
          · exact .inl (by omega)
          · have hr : q % ins.length < ins.length := Nat.mod_lt _ h
            have lb := (hin _ (List.getElem_mem hr)).1
            obtain ⟨⟨hsh, i, l, q4⟩, hx⟩ : ∃ x, x = ins[q % ins.length] := ⟨_, rfl⟩
            have e7 := hin' _ hr hn
            rw [hti hr, ← hx] at e7
            rw [← hx] at lb
            simp only [List.map_append, List.map_cons, List.map_nil] at e7
            refine .inr ⟨q % ins.length, i, q4, hsh, l, by omega, by omega, ?_, by simpa using lb, e7.args (.cons (.refl _) (.cons (.one (.nil _ _ _)) (.cons (.refl _) .nil)))⟩
            rw [List.getElem?_map, List.getElem?_eq_getElem hr, ← hx]; rfl
        have a1 : (scripts.length + 1) * 24 ≤ 140737488355328 := by omega
        have a2 : (spent.length + 1) * 32 ≤ 140737488355328 := by omega
        have a3 : scripts.length * 24 ≤ 140737488355328 := by omega
        have a4 : spent.length * 32 ≤ 140737488355328 := by omega
        clear ho hin' hto hti e1 e2 e3 e5 hf F
        cases qa <;> cases qb
        all_goals
          simp (maxSteps := 1000000) (dsimp := false) (disch := omega) only [znil_none, nilTest_t, nilOf, zops_none, zops_some, zstep_eq, zput_some, zwant_t, zwant_f, zthen_some, zfn_fn, wantedV, vop, veval, toVs, toV1, vbuild, vfill, vbinX, vbin, strip1, stripL, strip0, upd_at, initFr_at, vrecv, hintOf, varg1, varg, vargs, List.map_cons, List.map_nil, List.getElem?_cons_zero, List.getElem?_cons_succ, List.append_nil, List.getElem?_toArray, Option.map_some, Option.getD_some, Bool.not_true, Bool.or_true, Bool.or_false, beq_self_eq_true, eq_self, ↓reduceIte, Nat.reduceEqDiff, beq_false, ty4, ty36]
          refine zcall_pure (e5') (by first | exact fun h => Bool.noConfusion h | exact fun _ => rfl | exact fun _ => free_bv _ _ _) ?_
          simp (maxSteps := 1000000) (dsimp := false) (disch := omega) only [zwp_skip, zwp_region_f, zwp_seq, zwp_cond, znil_none, nilTest_t, nilOf, zops_nil, zops_none, zstep_eq, zput_some, zcond_f, zthen_some, vop, veval, toVs, toV1, vload, vpart, vbuiltin, vlen, vbinX, vbin, vint, BinOp.sh, vfaddr, upd_at, vrecv, TD.agg, List.map_cons, List.map_nil, List.getElem?_cons_zero, List.getElem?_cons_succ, List.length_map, Option.map_some, Bool.false_eq_true, eq_self, reduceCtorEq, ↓reduceIte, Nat.reduceEqDiff, Nat.zero_add, ty3, ty24, ty26, gt_iff_lt, List.length_map]
          rcases c1 with c1 | ⟨r, v, l, c1, hre, hgx, e6⟩
          · rcases c2 with c2 | ⟨r', i, q4, hsh, l', c2, hre', hgx', lb, e7⟩
            · skip
              simp (maxSteps := 1000000) (dsimp := false) (disch := omega) only [zwp_skip, zwp_region_f, zwp_seq, zwp_cond, zwp_ret, znil_none, nilTest_t, nilOf, zops_nil, zops_none, zstep_eq, zput_some, zcond_f, zthen_some, vop, veval, toVs, toV1, vload, vpart, vbuiltin, vlen, vbinX, vbin, vint, BinOp.sh, vfaddr, strip1, strip0, strip, upd_at, TD.agg, vret_r, vres, vresL, vseal, List.map_cons, List.map_nil, List.getElem?_cons_zero, List.getElem?_cons_succ, List.length_map, Option.map_some, Option.bind_some, Option.some.injEq, Bool.false_eq_true, decide_false, eq_self, reduceCtorEq, ↓reduceIte, Nat.reduceEqDiff, Nat.zero_add, exists_eq_left', Vle_self, ty3, ty23, ty26, gt_iff_lt, List.length_map, c1, c2]
            · have s1 : ∀ x y z : V, (bv hsh ++ [x, y, z]).length = 35 := fun x y z => by rw [List.length_append, lb]; rfl
              have s2 : ∀ x y z : V, List.take 32 (bv hsh ++ [x, y, z]) = bv hsh := fun x y z => List.take_left' lb

              simp (maxSteps := 1000000) (dsimp := false) (disch := omega) only [zlate_0, zwp_skip, zwp_region_f, zwp_region_t, zwp_seq, zwp_cond, znil_none, nilTest_f, nilTest_t, nilOf, zops_nil, zops_none, zstep_eq, zput_some, zcond_t, zcond_f, zthen_some, zfn_fn, int_lt0, vop, veval, vprt, toVs, toV1, vload, vpart, vblit, vlits, zeroElem, vbuiltin, vlen, vbinX, vbin, vint, BinOp.sh, vfaddr, viaddr, vapp, vsrc, vgrow, strip1, stripL, strip0, upd_at, initFr_at, St.tok, hintOf, V.cells, V.isVal, TD.agg, varg1, varg, vargs, List.map_cons, List.map_nil, List.getElem?_cons_zero, List.getElem?_cons_succ, List.take_succ_cons, List.take_nil, List.drop_zero, List.nil_append, List.append_nil, List.length_cons, List.length_nil, List.length_map, List.replicate_one, List.set_cons_zero, List.isEmpty_cons, List.isEmpty_nil, Option.map_some, Option.getD_some, Option.any_some, true_and, true_or, or_false, and_self, or_self, Bool.false_eq_true, Bool.not_true, Bool.false_and, Bool.and_true, Bool.and_false, Bool.or_false, decide_true, decide_false, eq_self, reduceCtorEq, ↓reduceIte, Nat.reduceLT, Nat.reduceLeDiff, Nat.reduceEqDiff, Nat.reduceAdd, Nat.reduceBEq, Nat.zero_add, Nat.zero_le, Nat.le_refl, Nat.zero_mul, Nat.one_mul, Int.toNat_natCast, List.cons_ne_nil, ty3, ty23, ty26, ty36, ty46, ty52, ty54, List.replicate_zero, gt_iff_lt, rem_pos, if_pos, if_neg, List.length_map, c1, c2, hqe, hre', hgx', a2, a4, s1, s2, lb, stripL_bv]
              refine zcall_pure (e7) (by first | exact fun h => Bool.noConfusion h | exact fun _ => rfl | exact fun _ => free_bv _ _ _) ?_
              simp (maxSteps := 1000000) (dsimp := false) (disch := omega) only [zwp_skip, zwp_region_f, zwp_seq, zwp_cond, zwp_ret, znil_none, nilTest_t, nilOf, zops_nil, zops_none, zstep_eq, zput_some, zcond_f, zthen_some, vop, veval, vun, strip1, strip0, strip, upd_at, vrecv, vret_r, vres, vresL, vseal, Option.map_some, Option.bind_some, Option.some.injEq, Bool.not_true, eq_self, ↓reduceIte, Nat.reduceEqDiff, exists_eq_left', Vle_self]
          · skip
            simp (maxSteps := 1000000) (dsimp := false) (disch := omega) only [zlate_0, zwp_region_f, zwp_region_t, zwp_seq, znil_none, nilTest_f, nilTest_t, nilOf, zops_nil, zops_none, zstep_eq, zput_some, zcond_t, zthen_some, zfn_fn, int_lt0, vop, veval, vprt, toVs, toV1, vload, vpart, vblit, vlits, zeroElem, vbuiltin, vlen, vbinX, vbin, vint, BinOp.sh, vfaddr, viaddr, vapp, vsrc, vgrow, strip1, stripL, strip0, upd_at, initFr_at, St.tok, hintOf, V.cells, V.isVal, TD.agg, varg1, varg, vargs, List.map_cons, List.map_nil, List.getElem?_cons_zero, List.getElem?_cons_succ, List.take_succ_cons, List.take_nil, List.drop_succ_cons, List.drop_zero, List.nil_append, List.append_nil, List.length_cons, List.length_nil, List.length_map, List.replicate_one, List.set_cons_zero, List.isEmpty_cons, List.isEmpty_nil, Option.map_some, Option.getD_some, Option.any_some, true_and, true_or, or_false, and_self, or_self, Bool.false_eq_true, Bool.not_true, Bool.false_and, Bool.and_true, Bool.and_false, Bool.or_false, decide_true, decide_false, eq_self, reduceCtorEq, ↓reduceIte, Nat.reduceLT, Nat.reduceLeDiff, Nat.reduceEqDiff, Nat.reduceAdd, Nat.reduceBEq, Nat.zero_add, Nat.zero_le, Nat.le_refl, Nat.mul_one, Int.toNat_natCast, List.cons_ne_nil, ty3, ty24, ty26, ty27, ty36, ty45, ty50, List.replicate_zero, rem_pos, if_pos, if_neg, List.length_map, c1, hqe, hre, hgx, a1, a3]
            refine zcall_pure (e6) (by first | exact fun h => Bool.noConfusion h | exact fun _ => rfl | exact fun _ => free_bv _ _ _) ?_
            simp (maxSteps := 1000000) (dsimp := false) (disch := omega) only [zwp_skip, zwp_region_f, zwp_seq, zwp_cond, znil_none, nilTest_t, nilOf, zops_nil, zops_none, zstep_eq, zput_some, zcond_f, zthen_some, vop, veval, toVs, toV1, vload, vpart, vbuiltin, vlen, vbinX, vbin, vint, BinOp.sh, vun, vfaddr, upd_at, vrecv, TD.agg, List.map_cons, List.map_nil, List.getElem?_cons_zero, List.getElem?_cons_succ, List.length_map, Option.map_some, Bool.false_eq_true, Bool.not_true, eq_self, reduceCtorEq, ↓reduceIte, Nat.reduceEqDiff, Nat.zero_add, ty3, ty23, ty26, gt_iff_lt, List.length_map]
            rcases c2 with c2 | ⟨r', i, q4, hsh, l', c2, hre', hgx', lb, e7⟩
            · skip
              simp (maxSteps := 1000000) (dsimp := false) (disch := omega) only [zwp_skip, zwp_region_f, zwp_seq, zwp_ret, znil_none, nilTest_t, nilOf, zops_nil, zops_none, zstep_eq, zput_some, zcond_f, zthen_some, vop, veval, strip1, strip0, strip, upd_at, vret_r, vres, vresL, vseal, Option.map_some, Option.bind_some, Option.some.injEq, decide_false, eq_self, ↓reduceIte, Nat.reduceEqDiff, exists_eq_left', Vle_self, c2]
            · have s1 : ∀ x y z : V, (bv hsh ++ [x, y, z]).length = 35 := fun x y z => by rw [List.length_append, lb]; rfl
              have s2 : ∀ x y z : V, List.take 32 (bv hsh ++ [x, y, z]) = bv hsh := fun x y z => List.take_left' lb

              simp (maxSteps := 1000000) (dsimp := false) (disch := omega) only [zlate_0, zwp_region_f, zwp_region_t, zwp_seq, znil_none, nilTest_f, nilTest_t, nilOf, zops_nil, zops_none, zstep_eq, zput_some, zcond_t, zthen_some, zfn_fn, int_lt0, vop, veval, vprt, toVs, toV1, vload, vpart, vblit, vlits, zeroElem, vbuiltin, vlen, vbinX, vbin, vint, BinOp.sh, vfaddr, viaddr, vapp, vsrc, vgrow, strip1, stripL, strip0, upd_at, initFr_at, St.tok, hintOf, V.cells, V.isVal, TD.agg, varg1, varg, vargs, List.map_cons, List.map_nil, List.getElem?_cons_zero, List.getElem?_cons_succ, List.take_succ_cons, List.take_nil, List.drop_zero, List.nil_append, List.append_nil, List.length_cons, List.length_nil, List.length_map, List.replicate_one, List.set_cons_zero, List.isEmpty_cons, List.isEmpty_nil, Option.map_some, Option.getD_some, Option.any_some, true_and, true_or, or_false, and_self, or_self, Bool.false_eq_true, Bool.not_true, Bool.false_and, Bool.and_true, Bool.and_false, Bool.or_false, decide_true, decide_false, eq_self, reduceCtorEq, ↓reduceIte, Nat.reduceLT, Nat.reduceLeDiff, Nat.reduceEqDiff, Nat.reduceAdd, Nat.reduceBEq, Nat.zero_add, Nat.zero_le, Nat.le_refl, Nat.zero_mul, Nat.one_mul, Int.toNat_natCast, List.cons_ne_nil, ty3, ty23, ty26, ty36, ty46, ty52, ty54, List.replicate_zero, rem_pos, if_pos, if_neg, List.length_map, c2, hqe, hre', hgx', a2, a4, s1, s2, lb, stripL_bv]
              refine zcall_pure (e7) (by first | exact fun h => Bool.noConfusion h | exact fun _ => rfl | exact fun _ => free_bv _ _ _) ?_
              simp (maxSteps := 1000000) (dsimp := false) (disch := omega) only [zwp_skip, zwp_region_f, zwp_seq, zwp_cond, zwp_ret, znil_none, nilTest_t, nilOf, zops_nil, zops_none, zstep_eq, zput_some, zcond_f, zthen_some, vop, veval, vun, strip1, strip0, strip, upd_at, vrecv, vret_r, vres, vresL, vseal, Option.map_some, Option.bind_some, Option.some.injEq, Bool.not_true, eq_self, ↓reduceIte, Nat.reduceEqDiff, exists_eq_left', Vle_self]
      · have hn' : (20 : Int) < (spent.length : Int) := by omega

        simp (maxSteps := 1000000) (dsimp := false) (disch := omega) only [zwp_region_f, zwp_seq, zwp_cond, zwp_ret, znil_none, nilTest_t, nilOf, zops_nil, zops_none, zops_some, zstep_eq, zput_some, zcond_t, zwant_t, zthen_some, wantedV, vop, veval, toVs, toV1, vbuiltin, vlen, vbinX, vbin, vint, BinOp.sh, vun, strip1, strip0, strip, upd_at, initFr_at, vrecv, vret_r, vres, vresL, vseal, List.map_cons, List.map_nil, List.getElem?_cons_zero, List.getElem?_cons_succ, List.length_map, List.getElem?_toArray, Option.map_some, Option.getD_some, Option.bind_some, Option.some.injEq, Bool.false_eq_true, Bool.not_true, decide_true, decide_false, beq_self_eq_true, eq_self, ↓reduceIte, Nat.reduceEqDiff, exists_eq_left', Vle_self, ty3, ty45, ty46, gt_iff_lt, List.length_map, hm', hn']
    · have hm' : (20 : Int) < (scripts.length : Int) := by omega

      simp (maxSteps := 1000000) (dsimp := false) (disch := omega) only [zwp_region_f, zwp_seq, zwp_cond, zwp_ret, znil_none, nilTest_t, nilOf, zops_nil, zops_none, zops_some, zstep_eq, zput_some, zcond_t, zwant_t, zwant_f, zthen_some, wantedV, vop, veval, toVs, toV1, vbuiltin, vlen, vbinX, vbin, vint, BinOp.sh, vun, strip1, strip0, strip, upd_at, initFr_at, vrecv, vret_r, vres, vresL, vseal, List.map_cons, List.map_nil, List.getElem?_cons_zero, List.getElem?_cons_succ, List.length_map, List.getElem?_toArray, Option.map_some, Option.getD_some, Option.bind_some, Option.some.injEq, Bool.false_eq_true, Bool.not_true, decide_true, beq_self_eq_true, eq_self, ↓reduceIte, Nat.reduceEqDiff, beq_false, exists_eq_left', Vle_self, ty3, ty45, gt_iff_lt, List.length_map, hm']

theorem txTouches_v (u0 : V) (H0 : HasT true [.int .u32, .sl true (List.replicate 32 (.int .u8) ++ [.int .u32] ++ [.sl false [.int .u8]] ++ [.int .u32]), .sl true [.int .u64, .sl false [.int .u8]], .int .u32] u0) (u1 : V) (H1 : HasT false [.sl false [.sl false [.int .u8]]] u1) (u2 : V) (H2 : HasT false [.sl true (List.replicate 32 (.int .u8))] u2) (u3 : V) (H3 : HasT false [.int .i64] u3) : VPure Try.prog 5 [u0, u1, u2, u3] (.b true) := by
  obtain ⟨t, rfl, ht⟩ := tx_of H0
  obtain ⟨s, rfl⟩ := scripts_of H1
  obtain ⟨h, rfl, hl⟩ := hashes_of H2
  obtain ⟨k, rfl, -, -⟩ := H3.one.i64
  exact touch_ok t ht s h hl k
end Go.Proofs.Ytkcapmodgkficaa
