/- Transactions: Put. -/
import Derived.Test.YtkcapmodgkficaaTxP
namespace Go.Proofs.Ytkcapmodgkficaa
open Go.Vx Go.Fl
set_option maxRecDepth 100000
set_option maxHeartbeats 4000000
set_option linter.unusedSimpArgs false
set_option linter.unusedVariables false

theorem WrB.tok {σ : St} {o : Nat} {L : List UInt8} (h : WrB σ o L) (hL : L ≠ []) : ∃ t, t ≠ o ∧ t < σ.n ∧ σ.h o = some (.cells [.sl 1 (bv L) (.tok t)]) ∧ σ.h t = some (.tok 5) := by
  rcases h.2 with ⟨h, _⟩ | h
  · exact absurd h hL
  · exact h
theorem WrB.push {h : Nat → Option Ob} {n o : Nat} {L : List UInt8} {x y : Option Ob} (hW : WrB ⟨h, n⟩ o L) : WrB ⟨upd (upd h n x) n y, n + 1⟩ o L := by
  obtain ⟨h1, h2⟩ := hW
  simp only at h1 h2
  refine ⟨Nat.lt_succ_of_lt h1, ?_⟩
  rcases h2 with ⟨rfl, h2⟩ | ⟨t, a, b, c, d⟩
  · left
    refine ⟨rfl, ?_⟩
    simp only
    rw [upd_ne _ _ (by omega), upd_ne _ _ (by omega)]; exact h2
  · right
    refine ⟨t, a, Nat.lt_succ_of_lt b, ?_, ?_⟩
    · simp only
      rw [upd_ne _ _ (by omega), upd_ne _ _ (by omega)]; exact c
    · simp only
      rw [upd_ne _ _ (by omega), upd_ne _ _ (by omega)]; exact d
theorem saneT_facts {t : TxT} (h : saneT t = true) : 1 ≤ t.2.1.length ∧ t.2.1.length ≤ 1000 ∧ t.2.2.1.length ≤ 1000 ∧ (∀ x ∈ t.2.1, x.2.2.1.length ≤ 10000) ∧ ∀ y ∈ t.2.2.1, y.2.length ≤ 10000 := by
  unfold saneT at h
  simp only [Bool.and_eq_true, decide_eq_true_eq, Bool.not_eq_true', List.any_eq_false] at h
  refine ⟨h.1.1.1, h.1.1.2.1, h.1.1.2.2, fun x hx => ?_, fun y hy => ?_⟩
  · have := h.1.2 x hx; omega
  · have := h.2 y hy; omega
theorem putN_le9 (n : Nat) : (putN n).length ≤ 9 := by
  rw [putN_length]
  have := sizeN_cases n
  omega
theorem inB_len {l : List TIn} (h : ∀ x ∈ l, x.1.length = 32 ∧ x.2.2.1.length ≤ 10000) : (l.flatMap inB).length ≤ l.length * 10049 := by
  induction l with
  | nil => simp
  | cons x l ih =>
    have h1 := h x (by simp)
    have h2 := ih fun y hy => h y (by simp [hy])
    have h3 := putN_le9 x.2.2.1.length
    rw [List.flatMap_cons, List.length_append, List.length_cons]
    have : (inB x).length ≤ 10049 := by
      unfold inB
      simp only [List.length_append, lowB_length]
      omega
    omega
theorem outB_len {l : List TOut} (h : ∀ y ∈ l, y.2.length ≤ 10000) : (l.flatMap outB).length ≤ l.length * 10017 := by
  induction l with
  | nil => simp
  | cons x l ih =>
    have h1 := h x (by simp)
    have h2 := ih fun y hy => h y (by simp [hy])
    have h3 := putN_le9 x.2.length
    rw [List.flatMap_cons, List.length_append, List.length_cons]
    have : (outB x).length ≤ 10017 := by
      unfold outB
      simp only [List.length_append, lowB_length]
      omega
    omega

theorem tput_ok (t : TxT) (ht : TxOk t) (hs : saneT t = true) : VPure Try.prog 9 [tv t] (.tup [.sl 1 (bv (txB t)) .no, .i .i64 0]) := by
  obtain ⟨ver, ins, outs, lock⟩ := t
  obtain ⟨hv, hi, ho, hk⟩ := ht
  simp only at hv hi ho hk
  obtain ⟨s1, s2, s3, s4, s5⟩ := saneT_facts hs
  simp only at s1 s2 s3 s4 s5
  have hS := saneT_ok (ver, ins, outs, lock) ⟨hv, hi, ho, hk⟩
  rw [hs] at hS
  have hib : ∀ k, ((ins.take k).flatMap inB).length ≤ 1000 * 10049 := fun k => by
    refine Nat.le_trans (inB_len fun x hx => ⟨(hi x (List.mem_of_mem_take hx)).1, s4 x (List.mem_of_mem_take hx)⟩) (Nat.mul_le_mul_right _ ?_)
    rw [List.length_take]; omega
  have hob : ∀ k, ((outs.take k).flatMap outB).length ≤ 1000 * 10017 := fun k => by
    refine Nat.le_trans (outB_len fun x hx => s5 x (List.mem_of_mem_take hx)) (Nat.mul_le_mul_right _ ?_)
    rw [List.length_take]; omega
  have l4 : (lowB 4 ver).length = 4 := lowB_length _ _
  have n4 : lowB 4 ver ≠ [] := by intro h; rw [h] at l4; simp at l4
  have p9 := putN_le9 ins.length
  have q9 := putN_le9 outs.length
  refine pure_of_body (tyOf_ok _) mixed Try.func9 rfl rfl (fun d => if d = 28 then 1 else if d = 45 then 1 else if d = 72 then 1 else 0) (by kernel_rfl) (zin ?_)
  dsimp only [Try.f9]

  simp (maxSteps := 1000000) (dsimp := false) (disch := omega) only [zwp_region_f, zwp_seq, znil_none, nilTest_t, nilOf, zops_nil, zops_none, zstep_eq, zput_some, zthen_some, zfn_fn, vop, veval, toVs, toV1, vbox, vload, vpart, strip1, stripL, strip0, upd_at, initFr_at, St.new, hintOf, V.cells, V.isVal, TD.agg, varg1, varg, vargs, List.map_cons, List.map_nil, List.getElem?_cons_zero, List.take_succ_cons, List.take_nil, List.drop_zero, List.append_nil, List.length_cons, List.length_nil, Option.map_some, Option.getD_some, Bool.or_false, eq_self, ↓reduceIte, Nat.reduceEqDiff, Nat.reduceAdd, Nat.zero_add, Nat.le_refl, ty36, tv]
  refine zcall_pure (hS) (by first | exact fun h => Bool.noConfusion h | exact fun _ => rfl | exact fun _ => free_bv _ _ _) ?_
  simp (maxSteps := 1000000) (dsimp := false) (disch := omega) only [zwp_skip, zwp_region_f, zwp_seq, zwp_cond, znil_none, nilTest_t, nilOf, zops_nil, zops_none, zstep_eq, zput_some, zcond_f, zthen_some, zfn_fn, vop, veval, toVs, toV1, vbox, vload, vpart, vbuild, vfill, vun, vconv, vfaddr, strip1, stripL, strip0, upd_at, St.new, vrecv, hintOf, V.cells, V.isVal, TD.agg, varg1, varg, vargs, List.map_cons, List.map_nil, List.getElem?_cons_zero, List.drop_zero, List.append_nil, Option.map_some, Bool.false_eq_true, Bool.not_true, Bool.or_false, eq_self, reduceCtorEq, ↓reduceIte, Nat.reduceEqDiff, Nat.reduceAdd, Nat.add_zero, ty22, ty36, ty48, ty63, wrap_u64]
  refine zcall_r (number_ok _ 1 [] ver 4 (by omega) (by omega) (by simp) ⟨Nat.one_lt_two, .inl ⟨rfl, rfl⟩⟩) ?_
  rintro v ⟨h, n⟩ ⟨rfl, hW, hK⟩
  have h0 : h 0 = some (.cells [.i .u32 (ver : Int), .sl 35 (ins.map iv) .no, .sl 2 (outs.map ov) .no, .i .u32 (lock : Int)]) := hK.2 0 _ (show 0 < 2 from Nat.zero_lt_two) (show 0 ≠ 1 from Nat.zero_ne_one) rfl
  have hn2 : 2 ≤ n := hK.1
  rw [List.nil_append] at hW
  obtain ⟨q, hq1, hq2, h1, hq3⟩ := hW.tok n4
  simp only at hq2 h1 hq3

  simp (maxSteps := 1000000) (dsimp := false) (disch := omega) only [zwp_region_t, zwp_seq, znil_none, nilTest_f, zops_nil, zops_none, zstep_eq, zput_some, zthen_some, zfn_fn, vop, veval, vload, vpart, vbuiltin, vlen, vconv, vfaddr, strip1, strip0, upd_at, hintOf, TD.agg, varg1, varg, vargs, List.map_cons, List.map_nil, List.getElem?_cons_zero, List.getElem?_cons_succ, List.append_nil, List.length_map, Option.map_some, Bool.false_eq_true, Bool.or_false, eq_self, reduceCtorEq, ↓reduceIte, Nat.reduceEqDiff, Nat.zero_add, Nat.add_zero, ty3, ty27, ty33, ty36, ty48, ty63, wrap_u64, h0, h1, List.length_map]
  refine zcall_pure (cput_ok (lowB 4 ver) 1 (.inl rfl) (by omega) ins.length (by omega)) (by first | exact fun h => Bool.noConfusion h | exact fun _ => rfl | exact fun _ => free_bv _ _ _) ?_
  simp (maxSteps := 1000000) (dsimp := false) (disch := omega) only [zlate_0, zwp_region_f, zwp_seq, zwp_block, znil_none, nilTest_f, nilTest_t, nilOf, zops_nil, zops_none, zstep_eq, zput_some, zput_none, zthen_some, vop, veval, toVs, toV1, vstore, vload, vpart, vbuiltin, vlen, vfaddr, upd_at, St.put, vrecv, V.cells, V.isVal, TD.agg, List.map_cons, List.map_nil, List.getElem?_cons_zero, List.getElem?_cons_succ, List.take_zero, List.drop_succ_cons, List.drop_nil, List.nil_append, List.append_nil, List.length_cons, List.length_nil, List.length_map, Option.map_some, and_self, Bool.false_eq_true, eq_self, reduceCtorEq, ↓reduceIte, Nat.reduceEqDiff, Nat.zero_add, Nat.add_zero, Nat.le_refl, ty27, ty33, ty36, ty63, if_neg, h0, h1, List.length_map]
  have hV : WrB ⟨upd (upd h n (some (.tok 5))) 1 (some (.cells [.sl 1 (bv (lowB 4 ver ++ putN ins.length)) (.tok n)])), n + 1⟩ 1 (lowB 4 ver ++ putN ins.length) := WrB.mk' (by omega) (by omega) (by omega) (upd_same _ _ _)
  have hl1 : (lowB 4 ver ++ putN ins.length).length ≤ 13 := by rw [List.length_append]; omega
  have hz : 0 < (lowB 4 ver ++ putN ins.length).length := by rw [List.length_append]; omega
  have htx : txB (ver, ins, outs, lock) = (lowB 4 ver ++ putN ins.length) ++ ins.flatMap inB ++ putN outs.length ++ outs.flatMap outB ++ lowB 4 lock := rfl
  rw [htx]
  generalize lowB 4 ver ++ putN ins.length = P1 at *
  refine zloop ins.length (fun k fr σ => fr 1 = .ptr 0 0 ∧ fr 4 = .ptr 1 0 ∧ fr 32 = .sl 35 (ins.map iv) .no ∧ fr 33 = .i .i64 (ins.length : Int) ∧ fr 34 = .i .i64 (k : Int) ∧ k ≤ ins.length ∧ WrB σ 1 (P1 ++ (ins.take k).flatMap inB) ∧ σ.h 0 = some (.cells [.i .u32 (ver : Int), .sl 35 (ins.map iv) .no, .sl 2 (outs.map ov) .no, .i .u32 (lock : Int)]) ∧ 2 ≤ σ.n) ⟨rfl, rfl, rfl, rfl, rfl, Nat.zero_le _, by simpa using hV, by simp only; rw [upd_ne _ _ (by omega), upd_ne _ _ (by omega)]; exact h0, by simp only; omega⟩ ?_
  clear hV hW h1 hq3 hq1 hq2 q h0 hK hn2 h n
  rintro k fr ⟨h, n⟩ hk ⟨f1, f4, f32, f33, f34, hk', hW, h0, hn⟩
  by_cases hlt : k < ins.length
  · have hlt' : (k : Int) < (ins.length : Int) := by omega
    have hg : (ins.map iv)[k]? = some (.agg (icell ins[k])) := by simp [hlt, iv]
    obtain ⟨x1, x2, x3⟩ := hi ins[k] (List.getElem_mem hlt)
    have x4 := s4 ins[k] (List.getElem_mem hlt)
    have x5 := hib k
    have htk : (ins.take (k + 1)).flatMap inB = (ins.take k).flatMap inB ++ inB ins[k] := by rw [List.take_succ_eq_append_getElem hlt, List.flatMap_append]; simp
    rw [htk, show P1 ++ ((ins.take k).flatMap inB ++ inB ins[k]) = ((((P1 ++ (ins.take k).flatMap inB) ++ ins[k].1) ++ lowB 4 ins[k].2.1) ++ putN ins[k].2.2.1.length ++ ins[k].2.2.1) ++ lowB 4 ins[k].2.2.2 by simp [inB]]
    have hl2 : (P1 ++ (ins.take k).flatMap inB).length ≤ 13 + 1000 * 10049 := by rw [List.length_append]; omega
    have hn0 : P1 ++ (ins.take k).flatMap inB ≠ [] := by intro h; have := congrArg List.length h; rw [List.length_append] at this; simp only [List.length_nil] at this; omega
    generalize P1 ++ (ins.take k).flatMap inB = L at *
    generalize ins[k] = x at *
    obtain ⟨q, hq1, hq2, h1, hq3⟩ := hW.tok hn0
    simp only at hq2 h1 hq3 h0 hn
    have c1 := icell_length x1
    have c2 := icell_take x1
    have c3 := icell_take35 x1
    have c4 := icell_strip x
    have c5 := icell_one x
    have c6 := icell_drop35 x1
    have c7 := icell_32 x1
    have c8 := icell_33 x1
    have c9 := icell_34 x1
    have b1 : (L.length + 32) * 32 ≤ 140737488355328 := by omega
    have b2 : stripL (bv x.1) = some (bv x.1) := stripL_bv _
    have b3 : 32 ≤ maxLen := by decide +kernel
    have n1 : n ≠ 1 := by omega
    have n2 : n ≠ q := by omega
    have n3 : (1 : Nat) ≠ n := by omega
    have n4 : q ≠ n := by omega

    simp (maxSteps := 1000000) (dsimp := false) (disch := omega) only [zlate_0, zwp_skip, zwp_region_f, zwp_region_t, zwp_seq, zwp_cond, zwp_block, znil_none, nilTest_f, nilTest_t, nilOf, zops_nil, zops_none, zstep_eq, zput_some, zput_none, zcond_t, zthen_some, zfn_fn, int_lt0, vop, veval, toVs, toV1, valloc, vstore, vload, vpart, vbuiltin, vbinX, vbin, vint, BinOp.sh, vconv, vslice, vbnd, vfaddr, viaddr, vapp, vsrc, vgrow, strip1, stripL, strip0, upd_at, St.new, St.put, St.tok, hintOf, V.cells, V.isVal, TD.agg, varg1, varg, vargs, List.map_cons, List.map_nil, List.getElem?_cons_zero, List.getElem?_cons_succ, List.take_zero, List.drop_succ_cons, List.drop_zero, List.drop_nil, List.nil_append, List.append_nil, List.length_cons, List.length_nil, Option.map_some, Option.map_none, Option.any_some, Option.isSome_none, true_and, true_or, and_self, or_self, Bool.false_eq_true, Bool.and_false, Bool.or_false, decide_true, decide_false, false_implies, eq_self, reduceCtorEq, ↓reduceIte, Nat.reduceLT, Nat.reduceLeDiff, Nat.reduceEqDiff, Nat.reduceAdd, Nat.reduceBEq, Nat.zero_add, Nat.add_zero, Nat.sub_zero, Nat.zero_le, Nat.le_refl, Nat.mul_one, Int.toNat_natCast, ty3, ty5, ty22, ty27, ty33, ty48, ty52, ty59, ty63, bv_length, wrap_u64, if_pos, if_neg, f4, f32, f33, f34, hlt', hg, c1, c2, c3, c7, h1, hq3, b2, b3, n1, n2, n3, n4, x1]
    have q0 : 0 ≠ q := by intro he; rw [← he, h0] at hq3; cases hq3
    have m1 : (L ++ x.1).length ≤ 13 + 1000 * 10049 + 32 := by rw [List.length_append]; omega
    have m2 : ((L ++ x.1) ++ lowB 4 x.2.1).length ≤ 13 + 1000 * 10049 + 36 := by rw [List.length_append, lowB_length]; omega
    have m3 : (((L ++ x.1) ++ lowB 4 x.2.1) ++ putN x.2.2.1.length ++ x.2.2.1).length ≤ 13 + 1000 * 10049 + 36 + 10009 := by
      have := putN_le9 x.2.2.1.length
      rw [List.length_append, List.length_append]; omega
    simp only [bv_append]
    refine zcall_r (number_ok _ 1 (L ++ x.1) x.2.1 4 (by omega) (by omega) (by omega) (WrB.mk' (o := 1) (n := n + 1 + 1) (q := n + 1) (by omega) (by omega) (by omega) (upd_same _ _ _))) ?_
    rintro v ⟨ha, na⟩ ⟨rfl, hWa, hKa⟩
    have a0 : ha 0 = some (.cells [.i .u32 (ver : Int), .sl 35 (ins.map iv) .no, .sl 2 (outs.map ov) .no, .i .u32 (lock : Int)]) := hKa.2 0 _ (by simp only; omega) (by omega) (by simp only; rw [upd_ne _ _ (by omega), upd_ne _ _ (by omega), upd_ne _ _ q0, upd_ne _ _ (by omega), upd_ne _ _ (by omega)]; exact h0)
    have an : ha n = some (.cells (icell x)) := hKa.2 n _ (by simp only; omega) n1 (by simp only; rw [upd_ne _ _ n1, upd_ne _ _ (by omega), upd_ne _ _ n2, upd_same])
    have na2 : n + 2 ≤ na := hKa.1

    simp (maxSteps := 1000000) (dsimp := false) (disch := omega) only [zwp_region_f, zwp_seq, znil_none, nilTest_t, nilOf, zops_nil, zops_none, zstep_eq, zput_some, zthen_some, zfn_fn, vop, veval, vload, vpart, vfaddr, strip1, strip0, upd_at, hintOf, TD.agg, varg1, varg, vargs, List.map_cons, List.map_nil, List.getElem?_cons_zero, List.getElem?_cons_succ, List.drop_zero, List.append_nil, Option.map_some, Bool.false_eq_true, Bool.or_false, eq_self, reduceCtorEq, ↓reduceIte, Nat.reduceEqDiff, Nat.zero_add, ty27, ty59, an, c8, f4]
    refine zcall_r (wbytes_ok _ 1 _ x.2.2.1 (by omega) (by omega) hWa) ?_
    rintro v ⟨hb, nb⟩ ⟨rfl, hWb, hKb⟩
    have b0 := hKb.2 0 _ (by simp only; omega) (by omega) a0
    have bn := hKb.2 n _ (by simp only; omega) n1 an
    have nb2 : na ≤ nb := hKb.1
    simp only at b0 bn

    simp (maxSteps := 1000000) (dsimp := false) (disch := omega) only [zwp_region_f, znil_none, nilTest_t, nilOf, zops_nil, zops_none, zstep_eq, zput_some, zthen_some, zfn_fn, vop, veval, toVs, toV1, vload, vpart, vconv, vfaddr, strip1, strip0, upd_at, hintOf, TD.agg, varg1, varg, vargs, List.map_cons, List.map_nil, List.getElem?_cons_zero, List.getElem?_cons_succ, List.drop_zero, List.append_nil, Option.map_some, Bool.false_eq_true, Bool.or_false, eq_self, reduceCtorEq, ↓reduceIte, Nat.reduceEqDiff, Nat.zero_add, ty22, ty48, ty59, wrap_u64, bn, c9, f4]
    refine zcall_r (number_ok _ 1 _ x.2.2.2 4 (by omega) (by omega) (by omega) hWb) ?_
    rintro v ⟨hc, nc⟩ ⟨rfl, hWc, hKc⟩
    have e0 := hKc.2 0 _ (by simp only; omega) (by omega) b0
    have nc2 : nb ≤ nc := hKc.1
    simp only at e0

    simp (maxSteps := 1000000) (dsimp := false) (disch := omega) only [zwp_region_f, znil_none, nilTest_t, nilOf, zops_nil, zops_none, zstep_eq, zput_some, zthen_some, vop, veval, toVs, toV1, vbinX, vbin, vint, BinOp.sh, upd_at, List.append_assoc, Option.map_some, V.i.injEq, true_and, Bool.false_eq_true, eq_self, ↓reduceIte, Nat.reduceEqDiff, ty3, wrap_i64, f1, f4, f32, f33, f34]
    exact ⟨hlt, by omega, hlt, by simpa using hWc, e0, by omega⟩
  · have hlt' : ¬ (k : Int) < (ins.length : Int) := by omega
    have hje : k = ins.length := by omega
    rw [hje, List.take_length] at hW
    have x5 := hib ins.length
    rw [List.take_length] at x5
    have hl2 : (P1 ++ ins.flatMap inB).length ≤ 13 + 1000 * 10049 := by rw [List.length_append]; omega
    have hn0 : P1 ++ ins.flatMap inB ≠ [] := by intro h; have := congrArg List.length h; rw [List.length_append] at this; simp only [List.length_nil] at this; omega
    clear htx
    generalize P1 ++ ins.flatMap inB = P2 at *
    obtain ⟨q, hq1, hq2, h1, hq3⟩ := hW.tok hn0
    simp only at hq2 h1 hq3 h0 hn

    simp (maxSteps := 1000000) (dsimp := false) (disch := omega) only [zwp_region_f, zwp_region_t, zwp_seq, zwp_cond, zwp_exit, znil_none, nilTest_f, nilTest_t, nilOf, zops_nil, zops_none, zstep_eq, zput_some, zcond_f, zthen_some, zfn_fn, vop, veval, vload, vpart, vbuiltin, vlen, vbinX, vbin, vint, BinOp.sh, vconv, vfaddr, strip1, strip0, upd_at, hintOf, TD.agg, varg1, varg, vargs, List.map_cons, List.map_nil, List.getElem?_cons_zero, List.getElem?_cons_succ, List.append_nil, List.length_map, Option.map_some, Bool.false_eq_true, Bool.or_false, decide_false, eq_self, reduceCtorEq, ↓reduceIte, Nat.reduceEqDiff, Nat.zero_add, Nat.add_zero, ty3, ty27, ty34, ty36, ty48, ty63, wrap_u64, f1, f4, f33, f34, hlt', h0, h1, List.length_map]
    refine zcall_pure (cput_ok P2 1 (.inl rfl) (by omega) outs.length (by omega)) (by first | exact fun h => Bool.noConfusion h | exact fun _ => rfl | exact fun _ => free_bv _ _ _) ?_
    simp (maxSteps := 1000000) (dsimp := false) (disch := omega) only [zlate_0, zwp_region_f, zwp_seq, zwp_block, znil_none, nilTest_f, nilTest_t, nilOf, zops_nil, zops_none, zstep_eq, zput_some, zput_none, zthen_some, vop, veval, toVs, toV1, vstore, vload, vpart, vbuiltin, vlen, vfaddr, upd_at, St.put, vrecv, V.cells, V.isVal, TD.agg, List.map_cons, List.map_nil, List.getElem?_cons_zero, List.getElem?_cons_succ, List.take_zero, List.drop_succ_cons, List.drop_nil, List.nil_append, List.append_nil, List.length_cons, List.length_nil, List.length_map, Option.map_some, and_self, Bool.false_eq_true, eq_self, reduceCtorEq, ↓reduceIte, Nat.reduceEqDiff, Nat.zero_add, Nat.add_zero, Nat.le_refl, ty27, ty34, ty36, ty63, if_neg, f1, h0, h1, List.length_map]
    have hV : WrB ⟨upd (upd h n (some (.tok 5))) 1 (some (.cells [.sl 1 (bv (P2 ++ putN outs.length)) (.tok n)])), n + 1⟩ 1 (P2 ++ putN outs.length) := WrB.mk' (by omega) (by omega) (by omega) (upd_same _ _ _)
    have hl3 : (P2 ++ putN outs.length).length ≤ 22 + 1000 * 10049 := by rw [List.length_append]; omega
    have hn3 : P2 ++ putN outs.length ≠ [] := by intro h; exact hn0 (List.append_eq_nil_iff.1 h).1
    have q0 : 0 ≠ q := by intro he; rw [← he, h0] at hq3; cases hq3
    generalize P2 ++ putN outs.length = P3 at *
    refine zloop outs.length (fun k fr σ => fr 1 = .ptr 0 0 ∧ fr 4 = .ptr 1 0 ∧ fr 76 = .sl 2 (outs.map ov) .no ∧ fr 77 = .i .i64 (outs.length : Int) ∧ fr 78 = .i .i64 (k : Int) ∧ k ≤ outs.length ∧ WrB σ 1 (P3 ++ (outs.take k).flatMap outB) ∧ σ.h 0 = some (.cells [.i .u32 (ver : Int), .sl 35 (ins.map iv) .no, .sl 2 (outs.map ov) .no, .i .u32 (lock : Int)]) ∧ 2 ≤ σ.n) ⟨f1, f4, rfl, rfl, rfl, Nat.zero_le _, by simpa using hV, by simp only; rw [upd_ne _ _ (by omega), upd_ne _ _ (by omega)]; exact h0, by simp only; omega⟩ ?_
    clear hV hW h1 hq3 hq1 hq2 q0 q h0 hn hlt hlt' hje hk' f1 f4 f32 f33 f34 h n hk fr k x5 hn0 hl2 P2
    rintro k fr ⟨h, n⟩ hkk ⟨f1, f4, f32, f33, f34, hk', hW, h0, hn⟩
    by_cases hlt : k < outs.length
    · have hlt' : (k : Int) < (outs.length : Int) := by omega
      have hg : (outs.map ov)[k]? = some (.agg [.i .u64 ((outs[k].1 : Nat) : Int), .sl 1 (bv outs[k].2) .no]) := by simp [hlt, ov]
      have x1 : outs[k].1 ≤ 18446744073709551615 := ho outs[k] (List.getElem_mem hlt)
      have x4 := s5 outs[k] (List.getElem_mem hlt)
      have x5 := hob k
      have htk : (outs.take (k + 1)).flatMap outB = (outs.take k).flatMap outB ++ outB outs[k] := by rw [List.take_succ_eq_append_getElem hlt, List.flatMap_append]; simp
      rw [htk, show P3 ++ ((outs.take k).flatMap outB ++ outB outs[k]) = ((P3 ++ (outs.take k).flatMap outB) ++ lowB 8 outs[k].1) ++ putN outs[k].2.length ++ outs[k].2 by simp [outB]]
      have hl2 : (P3 ++ (outs.take k).flatMap outB).length ≤ 22 + 1000 * 10049 + 1000 * 10017 := by rw [List.length_append]; omega
      generalize P3 ++ (outs.take k).flatMap outB = L at *
      generalize outs[k] = x at *
      simp only at h0 hn
      have n1 : n ≠ 1 := by omega
      have n3 : (1 : Nat) ≠ n := by omega

      simp (maxSteps := 1000000) (dsimp := false) (disch := omega) only [zwp_skip, zwp_region_f, zwp_seq, zwp_cond, zwp_block, znil_none, nilTest_t, nilOf, zops_nil, zops_none, zstep_eq, zput_some, zput_none, zcond_t, zthen_some, zfn_fn, int_lt0, vop, veval, toVs, toV1, valloc, vstore, vload, vpart, vbinX, vbin, vint, BinOp.sh, vfaddr, viaddr, strip1, strip0, upd_at, St.new, St.put, hintOf, V.cells, V.isVal, TD.agg, varg1, varg, vargs, List.map_cons, List.map_nil, List.getElem?_cons_zero, List.take_succ_cons, List.take_zero, List.take_nil, List.drop_succ_cons, List.drop_zero, List.drop_nil, List.nil_append, List.append_nil, List.length_cons, List.length_nil, Option.map_some, and_self, Bool.false_eq_true, Bool.or_false, decide_true, eq_self, reduceCtorEq, ↓reduceIte, Nat.reduceEqDiff, Nat.reduceAdd, Nat.zero_add, Nat.add_zero, Nat.le_refl, Int.toNat_natCast, ty3, ty34, ty48, ty60, f4, f32, f33, f34, hlt', hg, n3]
      have m1 : (L ++ lowB 8 x.1).length ≤ 22 + 1000 * 10049 + 1000 * 10017 + 8 := by rw [List.length_append, lowB_length]; omega
      refine zcall_r (number_ok _ 1 L x.1 8 (by omega) (by omega) (by omega) hW.push) ?_
      rintro v ⟨ha, na⟩ ⟨rfl, hWa, hKa⟩
      have a0 : ha 0 = some (.cells [.i .u32 (ver : Int), .sl 35 (ins.map iv) .no, .sl 2 (outs.map ov) .no, .i .u32 (lock : Int)]) := hKa.2 0 _ (by simp only; omega) (by omega) (by simp only; rw [upd_ne _ _ (by omega), upd_ne _ _ (by omega)]; exact h0)
      have an : ha n = some (.cells [.i .u64 (x.1 : Int), .sl 1 (bv x.2) .no]) := hKa.2 n _ (by simp only; omega) n1 (by simp only; rw [upd_same])
      have na2 : n + 1 ≤ na := hKa.1

      simp (maxSteps := 1000000) (dsimp := false) (disch := omega) only [zwp_region_f, znil_none, nilTest_t, nilOf, zops_nil, zops_none, zstep_eq, zput_some, zthen_some, zfn_fn, vop, veval, vload, vpart, vfaddr, strip1, strip0, upd_at, hintOf, TD.agg, varg1, varg, vargs, List.map_cons, List.map_nil, List.getElem?_cons_zero, List.getElem?_cons_succ, List.drop_zero, List.append_nil, Option.map_some, Bool.false_eq_true, Bool.or_false, eq_self, reduceCtorEq, ↓reduceIte, Nat.reduceEqDiff, Nat.zero_add, ty27, ty60, an, f4]
      refine zcall_r (wbytes_ok _ 1 _ x.2 (by omega) (by omega) hWa) ?_
      rintro v ⟨hb, nb⟩ ⟨rfl, hWb, hKb⟩
      have b0 := hKb.2 0 _ (by simp only; omega) (by omega) a0
      have nb2 : na ≤ nb := hKb.1
      simp only at b0 na2 nb2

      simp (maxSteps := 1000000) (dsimp := false) (disch := omega) only [zwp_region_f, znil_none, nilTest_t, nilOf, zops_nil, zops_none, zstep_eq, zput_some, zthen_some, vop, veval, toVs, toV1, vbinX, vbin, vint, BinOp.sh, upd_at, List.append_assoc, Option.map_some, V.i.injEq, true_and, Bool.false_eq_true, eq_self, ↓reduceIte, Nat.reduceEqDiff, ty3, wrap_i64, f1, f4, f32, f33, f34]
      exact ⟨hlt, by omega, hlt, by simpa using hWb, b0, by omega⟩
    · have hlt' : ¬ (k : Int) < (outs.length : Int) := by omega
      have hje : k = outs.length := by omega
      rw [hje, List.take_length] at hW
      have x5 := hob outs.length
      rw [List.take_length] at x5
      have hl2 : (P3 ++ outs.flatMap outB).length ≤ 22 + 1000 * 10049 + 1000 * 10017 := by rw [List.length_append]; omega
      have hn0 : P3 ++ outs.flatMap outB ≠ [] := by intro h; exact hn3 (List.append_eq_nil_iff.1 h).1
      generalize P3 ++ outs.flatMap outB = P4 at *
      simp only at h0 hn

      simp (maxSteps := 1000000) (dsimp := false) (disch := omega) only [zwp_region_f, zwp_seq, zwp_cond, zwp_exit, znil_none, nilTest_t, nilOf, zops_nil, zops_none, zstep_eq, zput_some, zcond_f, zthen_some, zfn_fn, vop, veval, toVs, toV1, vload, vpart, vbinX, vbin, vint, BinOp.sh, vconv, vfaddr, strip1, strip0, upd_at, hintOf, TD.agg, varg1, varg, vargs, List.map_cons, List.map_nil, List.getElem?_cons_zero, List.getElem?_cons_succ, List.drop_zero, List.append_nil, Option.map_some, Bool.false_eq_true, Bool.or_false, decide_false, eq_self, reduceCtorEq, ↓reduceIte, Nat.reduceEqDiff, Nat.zero_add, ty3, ty22, ty36, ty48, wrap_u64, f1, f4, f33, f34, hlt', h0]
      refine zcall_r (number_ok _ 1 _ lock 4 (by omega) (by omega) (by omega) hW) ?_
      rintro v ⟨ha, na⟩ ⟨rfl, hWa, hKa⟩
      obtain ⟨q, hq1, hq2, h1, hq3⟩ := hWa.tok (by intro h; exact hn0 (List.append_eq_nil_iff.1 h).1)
      simp only at hq2 h1 hq3

      simp (maxSteps := 1000000) (dsimp := false) (disch := omega) only [zwp_region_f, zwp_seq, zwp_ret, znil_none, nilTest_t, nilOf, zops_nil, zops_none, zstep_eq, zput_some, zthen_some, vop, veval, toVs, toV1, vload, vpart, vfaddr, strip1, strip0, stripTL, strip, upd_at, TD.agg, vret_r, vres, vresL, vseal, List.getElem?_cons_zero, Option.map_some, Option.bind_some, Option.some.injEq, Bool.false_eq_true, eq_self, reduceCtorEq, ↓reduceIte, Nat.reduceEqDiff, Nat.add_zero, exists_eq_left', Vle_self, ty27, ty63, h1, f4]

theorem tput_no (t : TxT) (ht : TxOk t) (hs : saneT t = false) : VPure Try.prog 9 [tv t] (.tup [.sl 1 [] .no, .i .i64 3]) := by
  have hS := saneT_ok t ht
  rw [hs] at hS
  unfold tv at *
  refine pure_of_body (tyOf_ok _) mixed Try.func9 rfl rfl (fun d => if d = 28 then 1 else if d = 45 then 1 else if d = 72 then 1 else 0) (by kernel_rfl) (zin ?_)
  dsimp only [Try.f9]

  simp (maxSteps := 1000000) (dsimp := false) (disch := omega) only [zwp_region_f, zwp_seq, znil_none, nilTest_t, nilOf, zops_nil, zops_none, zstep_eq, zput_some, zthen_some, zfn_fn, vop, veval, toVs, toV1, vbox, vload, vpart, strip1, stripL, strip0, upd_at, initFr_at, St.new, hintOf, V.cells, V.isVal, TD.agg, varg1, varg, vargs, List.map_cons, List.map_nil, List.getElem?_cons_zero, List.take_succ_cons, List.take_nil, List.drop_zero, List.append_nil, List.length_cons, List.length_nil, Option.map_some, Option.getD_some, Bool.or_false, eq_self, ↓reduceIte, Nat.reduceEqDiff, Nat.reduceAdd, Nat.zero_add, Nat.le_refl, ty36]
  refine zcall_pure (hS) (by first | exact fun h => Bool.noConfusion h | exact fun _ => rfl | exact fun _ => free_bv _ _ _) ?_
  simp (maxSteps := 1000000) (dsimp := false) (disch := omega) only [zwp_region_f, zwp_seq, zwp_cond, zwp_ret, znil_none, nilTest_t, nilOf, zops_nil, zops_none, zstep_eq, zput_some, zcond_t, zthen_some, vop, veval, toVs, toV1, vun, strip1, strip0, stripTL, strip, upd_at, vrecv, vret_r, vres, vresL, vseal, Option.map_some, Option.bind_some, Option.some.injEq, Bool.not_false, eq_self, ↓reduceIte, Nat.reduceEqDiff, exists_eq_left']
  all_goals first | done | exact .tup (.cons (.one (.nil _ _ _)) (.cons (.refl _) .nil)) | skip
end Go.Proofs.Ytkcapmodgkficaa
