/- Transactions: getting one's ins and outs. -/
import Derived.Test.YtkcapmodgkficaaTxV
namespace Go.Proofs.Ytkcapmodgkficaa
open Go.Vx Go.Fl
set_option maxRecDepth 100000
set_option maxHeartbeats 4000000
set_option linter.unusedSimpArgs false
set_option linter.unusedVariables false

theorem takeP_err {n : Nat} {R : RdT} (h : (takeP n R).2.2 = 0) : R.2 = 0 ∧ ∃ l, (takeP n R).1 = some l ∧ l.length = n := by
  unfold takeP at h ⊢
  split at h
  · rename_i h0
    split at h
    · cases h
    · rename_i h1
      rw [if_pos h0, if_neg h1]
      exact ⟨h0, _, rfl, by rw [List.length_take]; omega⟩
  · rename_i h0; exact absurd h h0
theorem numP_err {n : Nat} {R : RdT} (h : (numP n R).2.2 = 0) : R.2 = 0 := (takeP_err h).1
theorem hashP_err {R : RdT} (h : (hashP R).2.2 = 0) : R.2 = 0 := (takeP_err h).1
theorem scriptP_err {R : RdT} (h : (scriptP R).2.2 = 0) : R.2 = 0 ∧ ∃ l, (scriptP R).1 = some l := by
  unfold scriptP at h ⊢
  split at h
  · rename_i h0
    split at h
    · rename_i h1
      rw [if_pos h0, if_pos h1]
      exact ⟨h0, _, rfl⟩
    · rename_i h1; exact absurd h h1
  · rename_i h0; exact absurd h h0
theorem takeP_len (n : Nat) (R : RdT) : (takeP n R).2.1.length ≤ R.1.length := by
  unfold takeP
  split
  · split
    · exact Nat.le_refl _
    · simp
  · exact Nat.le_refl _
theorem numP_len (n : Nat) (R : RdT) : (numP n R).2.1.length ≤ R.1.length := takeP_len n R
theorem hashP_len (R : RdT) : (hashP R).2.1.length ≤ R.1.length := takeP_len 32 R
theorem scriptP_len (R : RdT) : (scriptP R).2.1.length ≤ R.1.length := by
  unfold scriptP
  split
  · split
    · simp
    · exact Nat.le_refl _
  · exact Nat.le_refl _
theorem hashP_32 (R : RdT) : (hashP R).1.length = 32 := by
  unfold hashP takeP
  split
  · rfl
  · rename_i h
    split at h
    · split at h
      · cases h
      · cases h; rw [List.length_take]; omega
    · cases h
theorem numP_lt (n : Nat) (R : RdT) : (numP n R).1 < 256 ^ n := by
  unfold numP
  simp only
  split
  · exact Nat.pow_pos (by decide)
  · rename_i l h
    have hl : l.length = n := by
      unfold takeP at h
      split at h
      · split at h
        · cases h
        · cases h; rw [List.length_take]; omega
      · cases h
    rw [← hl]; exact leVal_lt l

/-- One more in. -/
def stepI (a : RdT × List TIn) : RdT × List TIn :=
  ((numP 4 (scriptP (numP 4 (hashP a.1).2).2).2).2, a.2 ++ [((hashP a.1).1, (numP 4 (hashP a.1).2).1, ((scriptP (numP 4 (hashP a.1).2).2).1).getD [], (numP 4 (scriptP (numP 4 (hashP a.1).2).2).2).1)])
def stepO (a : RdT × List TOut) : RdT × List TOut :=
  ((scriptP (numP 8 a.1).2).2, a.2 ++ [((numP 8 a.1).1, ((scriptP (numP 8 a.1).2).1).getD [])])

/-- A slice that grows. -/
def GrowS (σ : St) (z : Nat) (ty : TypeId) (xs : List V) (c : V) : Prop := (xs = [] ∧ c = .sl 0 [] .clip) ∨ ∃ t, 4 ≤ t ∧ t < σ.n ∧ c = .sl z xs (.tok t) ∧ σ.h t = some (.tok ty)
def Base (σ : St) (R : RdT) (cs : List V) : Prop := σ.h 1 = rcell R ∧ σ.h 2 = some (.cells [.ptr 1 0]) ∧ σ.h 0 = some (.cells [.i .u32 0, .sl 0 [] .clip, .sl 0 [] .clip, .i .u32 0]) ∧ σ.h 3 = some (.cells cs) ∧ 4 ≤ σ.n ∧ R.1.length ≤ 100000000
def GI (ver : Nat) (k : Nat) (a : RdT × List TIn) (σ : St) : Prop :=
  ∃ c, Base σ a.1 [.i .u32 (ver : Int), c, .sl 0 [] .clip, .i .u32 0] ∧ (a.1.2 = 0 → a.2.length ≤ k ∧ GrowS σ 35 59 (a.2.map iv) c)

theorem base_fin {h : Nat → Option Ob} {n t m : Nat} {A Y : Option Ob} {R : RdT} {cs : List V} (h1 : h 1 = rcell R) (h2 : h 2 = some (.cells [.ptr 1 0])) (h0 : h 0 = some (.cells [.i .u32 0, .sl 0 [] .clip, .sl 0 [] .clip, .i .u32 0])) (hn : 4 ≤ n) (ht : 4 ≤ t) (hm : 4 ≤ m) (hl : R.1.length ≤ 100000000) :
    Base ⟨upd (upd (upd (upd h n A) t none) m Y) 3 (some (.cells cs)), m + 1⟩ R cs := by
  refine ⟨?_, ?_, ?_, by simp only; rw [upd_same], by simp only; omega, hl⟩
  · simp only
    rw [upd_ne _ _ (by omega), upd_ne _ _ (by omega), upd_ne _ _ (by omega), upd_ne _ _ (by omega)]; exact h1
  · simp only
    rw [upd_ne _ _ (by omega), upd_ne _ _ (by omega), upd_ne _ _ (by omega), upd_ne _ _ (by omega)]; exact h2
  · simp only
    rw [upd_ne _ _ (by omega), upd_ne _ _ (by omega), upd_ne _ _ (by omega), upd_ne _ _ (by omega)]; exact h0
theorem geti_ok (ver : Nat) (k : Nat) (a : RdT × List TIn) (σ : St) (hk : k < 1000) (he : a.1.2 = 0) (h : GI ver k a σ) :
    VRef Try.prog 27 [.ptr 2 0, .ptr 3 0] σ (fun v σ' => v = .tup [] ∧ GI ver (k + 1) (stepI a) σ') := by
  obtain ⟨R, ins⟩ := a
  obtain ⟨c, ⟨h1, h2, h0, h3, hn, hl⟩, hg⟩ := h
  obtain ⟨hk', hg⟩ := hg he
  simp only at h1 h2 h0 h3 hn hl hk' hg he
  unfold stepI
  simp only
  have z1 := hashP_32 R
  have z2 := hashP_len R
  have y1 : ∀ s : St, s.h 1 = rcell R → 1 < s.n → _ := fun s hs hn => rhash_ok s 1 R hn hs
  have q1 := @hashP_err R
  generalize hashP R = H at *
  obtain ⟨hsh, R1⟩ := H
  have z3 := numP_lt 4 R1
  have z4 := numP_len 4 R1
  have y2 : ∀ s : St, s.h 1 = rcell R1 → 1 < s.n → _ := fun s hs hn => rnumber_ok s 1 R1 4 (by omega) hn hs
  have q2 := @numP_err 4 R1
  simp only at z1 z2 z3 z4 q1 q2 ⊢
  generalize numP 4 R1 = N1 at *
  obtain ⟨idx, R2⟩ := N1
  have z5 := scriptP_len R2
  simp only at z4
  have y3 : ∀ s : St, s.h 1 = rcell R2 → _ := fun s hs => rscript_ok s 1 R2 (by omega) hs
  have q3 := @scriptP_err R2
  simp only at z3 z5 q2 q3 ⊢
  generalize scriptP R2 = S at *
  obtain ⟨sc, R3⟩ := S
  have z6 := numP_lt 4 R3
  have z7 := numP_len 4 R3
  have y4 : ∀ s : St, s.h 1 = rcell R3 → 1 < s.n → _ := fun s hs hn => rnumber_ok s 1 R3 4 (by omega) hn hs
  have q4 := @numP_err 4 R3
  simp only at z5 z6 z7 q3 q4 ⊢
  generalize numP 4 R3 = N2 at *
  obtain ⟨seq, R4⟩ := N2
  simp only at y1 y2 y3 y4 z6 z7 q4 ⊢
  have hl4 : R4.1.length ≤ 100000000 := by omega
  obtain ⟨h, n⟩ := σ
  simp only at h1 h2 h0 h3 hn hg
  have n0 : (0 : Nat) ≠ n := by omega
  have n1 : (1 : Nat) ≠ n := by omega
  have n2 : (2 : Nat) ≠ n := by omega
  have n3 : (3 : Nat) ≠ n := by omega
  have w1 : IntKind.u32.wrap (idx : Int) = (idx : Int) := wrap_u32 (by omega) (by omega)
  have w2 : IntKind.u32.wrap (seq : Int) = (seq : Int) := wrap_u32 (by omega) (by omega)
  refine ref_of_body (tyOf_ok _) mixed Try.func27 rfl rfl (fun d => if d = 21 then 1 else 0) (by kernel_rfl) (fun hwf => zin ?_)
  dsimp only [Try.f27]

  simp (maxSteps := 1000000) (dsimp := false) (disch := omega) only [zwp_region_f, zwp_seq, znil_none, nilTest_t, nilOf, zops_nil, zops_none, zstep_eq, zput_some, zthen_some, zfn_fn, vop, veval, valloc, vload, vpart, upd_at, initFr_at, St.new, hintOf, TD.agg, varg1, varg, vargs, List.map_cons, List.map_nil, List.getElem?_cons_zero, List.drop_zero, List.append_nil, Option.map_some, Option.getD_some, Bool.false_eq_true, eq_self, reduceCtorEq, ↓reduceIte, Nat.reduceEqDiff, ty59, ty71, n1, n2, h2]
  refine zcall_r (y1 _ (by simp only; rw [upd_ne _ _ n1]; exact h1) (by simp only; omega)) ?_
  rintro v ⟨ha, na⟩ ⟨rfl, ha1, hKa⟩
  have an : n + 1 ≤ na := hKa.1
  have ax := hKa.2 n (by simp only; omega) (by omega)
  have a2 := hKa.2 2 (by simp only; omega) (by omega)
  have a0 := hKa.2 0 (by simp only; omega) (by omega)
  have a3 := hKa.2 3 (by simp only; omega) (by omega)
  simp only at ha1
  simp only [upd_same, upd_ne _ _ n2, upd_ne _ _ n3, upd_ne _ _ n0, h2, h3, h0] at ax a2 a3 a0

  simp (maxSteps := 1000000) (dsimp := false) (disch := omega) only [zwp_region_f, zwp_seq, znil_none, nilTest_t, nilOf, zops_nil, zops_none, zstep_eq, zput_some, zput_none, zthen_some, zfn_fn, vop, veval, toVs, toV1, vstore, vload, vpart, vfaddr, strip1, strip0, upd_at, initFr_at, St.put, hintOf, V.cells, V.isVal, TD.agg, varg1, varg, vargs, List.map_cons, List.map_nil, List.getElem?_cons_zero, List.take_zero, List.drop_succ_cons, List.drop_zero, List.nil_append, List.append_nil, List.length_cons, List.length_nil, Option.map_some, Option.getD_some, and_self, Bool.false_eq_true, Bool.or_false, eq_self, reduceCtorEq, ↓reduceIte, Nat.reduceLeDiff, Nat.reduceEqDiff, Nat.reduceAdd, Nat.zero_add, Nat.add_zero, ty52, ty59, ty71, bv_length, n1, n2, ax, a2, z1]
  refine zcall_r (y2 _ (by simp only; rw [upd_ne _ _ n1]; exact ha1) (by simp only; omega)) ?_
  rintro v ⟨hb, nb⟩ ⟨rfl, hb1, hKb⟩
  have bn : na ≤ nb := hKb.1
  have bx := hKb.2 n (by simp only; omega) (by omega)
  have b2 := hKb.2 2 (by simp only; omega) (by omega)
  have b0 := hKb.2 0 (by simp only; omega) (by omega)
  have b3 := hKb.2 3 (by simp only; omega) (by omega)
  simp only at hb1
  simp only [upd_same, upd_ne _ _ n2, upd_ne _ _ n3, upd_ne _ _ n0, a2, a3, a0] at bx b2 b3 b0
  have lb : (bv hsh).length = 32 := by simp [z1]
  have s1 : ∀ x y z : V, (bv hsh ++ [x, y, z]).length = 35 := fun x y z => by rw [List.length_append, lb]; rfl
  have s2 : ∀ x y z : V, List.take 32 (bv hsh ++ [x, y, z]) = bv hsh := fun x y z => List.take_left' lb
  have s3 : ∀ x y z : V, List.drop 33 (bv hsh ++ [x, y, z]) = [y, z] := fun x y z => by rw [List.drop_append, lb, List.drop_eq_nil_of_le (by omega)]; rfl
  have s4 : ∀ x y z : V, List.take 33 (bv hsh ++ [x, y, z]) = bv hsh ++ [x] := fun x y z => by rw [List.take_append, lb, List.take_of_length_le (by omega)]; rfl
  have s5 : ∀ x y z : V, List.drop 34 (bv hsh ++ [x, y, z]) = [z] := fun x y z => by rw [List.drop_append, lb, List.drop_eq_nil_of_le (by omega)]; rfl
  have s6 : ∀ x y z : V, List.take 34 (bv hsh ++ [x, y, z]) = bv hsh ++ [x, y] := fun x y z => by rw [List.take_append, lb, List.take_of_length_le (by omega)]; rfl
  have s7 : ∀ x y z : V, List.drop 35 (bv hsh ++ [x, y, z]) = [] := fun x y z => by rw [List.drop_append, lb, List.drop_eq_nil_of_le (by omega)]; rfl
  have s8 : ∀ x y z : V, List.take 35 (bv hsh ++ [x, y, z]) = bv hsh ++ [x, y, z] := fun x y z => List.take_of_length_le (by rw [s1]; exact Nat.le_refl _)

  simp (maxSteps := 1000000) (dsimp := false) (disch := omega) only [zwp_region_f, zwp_seq, znil_none, nilTest_t, nilOf, zops_nil, zops_none, zstep_eq, zput_some, zput_none, zthen_some, zfn_fn, vop, veval, vstore, vload, vpart, vconv, vfaddr, upd_at, initFr_at, St.put, hintOf, V.cells, V.isVal, TD.agg, varg1, varg, vargs, List.map_cons, List.map_nil, List.getElem?_cons_zero, List.getElem?_cons_succ, List.drop_zero, List.nil_append, List.cons_append, List.append_nil, List.length_cons, List.length_nil, List.append_assoc, Option.map_some, Option.getD_some, and_self, Bool.false_eq_true, eq_self, reduceCtorEq, ↓reduceIte, Nat.reduceLeDiff, Nat.reduceEqDiff, Nat.reduceAdd, Nat.zero_add, ty22, ty48, ty59, ty71, n1, n2, bx, b2, w1, s1, s2, s3]
  refine zcall_r (y3 _ (by simp only; rw [upd_ne _ _ n1]; exact hb1)) ?_
  rintro v s ⟨rfl, rfl⟩
  have m1 : n ≠ 1 := by omega
  have m0 : (0 : Nat) ≠ 1 := by omega
  have m2 : (2 : Nat) ≠ 1 := by omega
  have m3 : (3 : Nat) ≠ 1 := by omega
  cases sc with
  | none =>

    simp (maxSteps := 1000000) (dsimp := false) (disch := omega) only [zwp_region_f, zwp_seq, znil_none, nilTest_t, nilOf, zops_nil, zops_none, zstep_eq, zput_some, zput_none, zthen_some, zfn_fn, vop, veval, toVs, toV1, vstore, vload, vpart, vfaddr, strip1, strip0, upd_at, initFr_at, St.put, hintOf, V.cells, V.isVal, TD.agg, varg1, varg, vargs, List.map_cons, List.map_nil, List.getElem?_cons_zero, List.getElem?_cons_succ, List.drop_zero, List.nil_append, List.cons_append, List.append_nil, List.length_cons, List.length_nil, List.append_assoc, Option.map_some, Option.getD_some, and_self, Bool.false_eq_true, Bool.or_false, eq_self, reduceCtorEq, ↓reduceIte, Nat.reduceLeDiff, Nat.reduceEqDiff, Nat.reduceAdd, Nat.zero_add, ty27, ty59, ty71, n1, n2, m1, m2, b2, s1, s4, s5, setR, takeV]
    refine zcall_r (y4 _ (by simp only; rw [upd_ne _ _ n1, upd_same]) (by simp only; omega)) ?_
    rintro v ⟨hc, nc⟩ ⟨rfl, hc1, hKc⟩
    have cn : nb ≤ nc := hKc.1
    have cx := hKc.2 n (by simp only; omega) (by omega)
    have c2 := hKc.2 2 (by simp only; omega) (by omega)
    have c0 := hKc.2 0 (by simp only; omega) (by omega)
    have c3 := hKc.2 3 (by simp only; omega) (by omega)
    simp only at hc1
    simp only [upd_same, upd_ne _ _ n2, upd_ne _ _ n3, upd_ne _ _ m2, upd_ne _ _ m3, upd_ne _ _ n0, upd_ne _ _ m0, b2, b3, b0] at cx c2 c3 c0
    have s9 : stripL (bv hsh ++ [V.i .u32 (idx : Int), .sl 0 [] .clip, .i .u32 (seq : Int)]) = some (bv hsh ++ [V.i .u32 (idx : Int), .sl 0 [] .no, .i .u32 (seq : Int)]) := stripL_app (stripL_bv _) rfl
    have s11 : ∀ x y z : V, (bv hsh ++ [x, y, z]).all V.one = (V.one x && (V.one y && (V.one z && true))) := fun x y z => by rw [List.all_append, bv_all]; rfl
    have hbad : ∀ {p : Prop}, R4.2 = 0 → p := fun h4 => by
      obtain ⟨-, l, h5⟩ := q3 (q4 h4)
      cases h5
    rcases hg with ⟨hi, rfl⟩ | ⟨t, t1, t2, rfl, t3⟩
    · have hi0 : ins = [] := by simpa using hi
      subst hi0

      simp (maxSteps := 1000000) (dsimp := false) (disch := omega) only [zwp_region_f, znil_none, nilTest_t, nilOf, zops_nil, zops_none, zstep_eq, zput_some, zput_none, zthen_some, vop, veval, vprt, vstore, vload, vpart, vblit, vlits, zeroElem, vbuiltin, vconv, vfaddr, vapp, vsrc, vgrow, strip0, upd_at, initFr_at, St.put, St.tok, V.cells, V.isVal, TD.agg, rret_n, vres, vresL, List.map_cons, List.map_nil, List.getElem?_cons_zero, List.getElem?_cons_succ, List.take_succ_cons, List.take_zero, List.drop_succ_cons, List.drop_zero, List.nil_append, List.cons_append, List.append_nil, List.length_cons, List.length_nil, List.replicate_one, List.set_cons_zero, List.isEmpty_cons, List.isEmpty_nil, List.append_assoc, Option.map_some, Option.getD_some, Option.getD_none, Option.any_some, Option.some.injEq, true_and, or_true, or_false, and_self, Bool.false_eq_true, Bool.not_true, Bool.and_true, Bool.and_false, decide_true, eq_self, reduceCtorEq, ↓reduceIte, Nat.reduceLT, Nat.reduceLeDiff, Nat.reduceEqDiff, Nat.reduceAdd, Nat.reduceBEq, Nat.zero_add, Nat.le_refl, Nat.one_mul, List.cons_ne_nil, exists_eq_left', ty22, ty33, ty36, ty48, ty59, if_neg, n3, cx, c3, w2, s1, s6, s7, s8, s9]
      exact ⟨_, base_fin hc1 c2 c0 (by omega) (by omega) (by omega) hl4, fun h4 => hbad h4⟩
    · simp only at t2 t3
      have u1 : hc t = some (.tok 59) := by
        have e1 := hKa.2 t (by simp only; omega) (by omega)
        have e2 := hKb.2 t (by simp only; omega) (by omega)
        have e3 := hKc.2 t (by simp only; omega) (by omega)
        simp only at e1 e2 e3
        rw [e3, upd_ne _ _ (by omega), upd_ne _ _ (by omega), upd_ne _ _ (by omega), e2, upd_ne _ _ (by omega), e1, upd_ne _ _ (by omega), t3]
      have u2 : (ins.length + 1) * 10000 ≤ 140737488355328 := by omega
      have u3 : t ≠ 3 := by omega
      have u4 : (3 : Nat) ≠ t := by omega
      have u5 : n ≠ t := by omega

      simp (maxSteps := 1000000) (dsimp := false) (disch := omega) only [zwp_region_f, znil_none, nilTest_t, nilOf, zops_nil, zops_none, zstep_eq, zput_some, zput_none, zthen_some, vop, veval, vprt, vstore, vload, vpart, vblit, vlits, zeroElem, vbuiltin, vconv, vfaddr, vapp, vsrc, vgrow, strip0, upd_at, initFr_at, St.put, St.tok, V.cells, V.isVal, TD.agg, rret_n, vres, vresL, List.map_cons, List.map_nil, List.getElem?_cons_zero, List.getElem?_cons_succ, List.take_succ_cons, List.take_zero, List.drop_succ_cons, List.drop_zero, List.nil_append, List.cons_append, List.append_nil, List.length_cons, List.length_nil, List.length_map, List.replicate_one, List.set_cons_zero, List.isEmpty_cons, List.append_assoc, Option.map_some, Option.getD_some, Option.getD_none, Option.any_some, Option.some.injEq, true_and, true_or, or_false, and_self, Bool.false_eq_true, Bool.false_and, Bool.and_false, decide_false, eq_self, reduceCtorEq, ↓reduceIte, Nat.reduceLT, Nat.reduceLeDiff, Nat.reduceEqDiff, Nat.reduceAdd, Nat.reduceBEq, Nat.zero_add, Nat.le_refl, Nat.one_mul, List.cons_ne_nil, exists_eq_left', ty22, ty33, ty36, ty48, ty59, if_pos, if_neg, n3, cx, c3, w2, s1, s6, s7, s8, s9, u1, u4, List.length_map]
      exact ⟨_, base_fin hc1 c2 c0 (by omega) (by omega) (by omega) hl4, fun h4 => hbad h4⟩
  | some l =>

    simp (maxSteps := 1000000) (dsimp := false) (disch := omega) only [zwp_region_f, zwp_seq, znil_none, nilTest_t, nilOf, zops_nil, zops_none, zstep_eq, zput_some, zput_none, zthen_some, zfn_fn, vop, veval, toVs, toV1, vstore, vload, vpart, vfaddr, strip1, strip0, upd_at, initFr_at, St.put, hintOf, V.cells, V.isVal, TD.agg, varg1, varg, vargs, List.map_cons, List.map_nil, List.getElem?_cons_zero, List.getElem?_cons_succ, List.drop_zero, List.nil_append, List.cons_append, List.append_nil, List.length_cons, List.length_nil, List.append_assoc, Option.map_some, Option.getD_some, and_self, Bool.false_eq_true, Bool.or_false, eq_self, reduceCtorEq, ↓reduceIte, Nat.reduceLeDiff, Nat.reduceEqDiff, Nat.reduceAdd, Nat.zero_add, ty27, ty59, ty71, n1, n2, m1, m2, b2, s1, s4, s5, setR, takeV]
    refine zcall_r (y4 _ (by simp only; rw [upd_ne _ _ n1, upd_same]) (by simp only; omega)) ?_
    rintro v ⟨hc, nc⟩ ⟨rfl, hc1, hKc⟩
    have cn : nb ≤ nc := hKc.1
    have cx := hKc.2 n (by simp only; omega) (by omega)
    have c2 := hKc.2 2 (by simp only; omega) (by omega)
    have c0 := hKc.2 0 (by simp only; omega) (by omega)
    have c3 := hKc.2 3 (by simp only; omega) (by omega)
    simp only at hc1
    simp only [upd_same, upd_ne _ _ n2, upd_ne _ _ n3, upd_ne _ _ m2, upd_ne _ _ m3, upd_ne _ _ n0, upd_ne _ _ m0, b2, b3, b0] at cx c2 c3 c0
    have s9 : stripL (bv hsh ++ [V.i .u32 (idx : Int), .sl 1 (bv l) .no, .i .u32 (seq : Int)]) = some (bv hsh ++ [V.i .u32 (idx : Int), .sl 1 (bv l) .no, .i .u32 (seq : Int)]) := stripL_app (stripL_bv _) rfl
    rcases hg with ⟨hi, rfl⟩ | ⟨t, t1, t2, rfl, t3⟩
    · have hi0 : ins = [] := by simpa using hi
      subst hi0

      simp (maxSteps := 1000000) (dsimp := false) (disch := omega) only [zwp_region_f, znil_none, nilTest_t, nilOf, zops_nil, zops_none, zstep_eq, zput_some, zput_none, zthen_some, vop, veval, vprt, vstore, vload, vpart, vblit, vlits, zeroElem, vbuiltin, vconv, vfaddr, vapp, vsrc, vgrow, strip0, upd_at, initFr_at, St.put, St.tok, V.cells, V.isVal, TD.agg, rret_n, vres, vresL, List.map_cons, List.map_nil, List.getElem?_cons_zero, List.getElem?_cons_succ, List.take_succ_cons, List.take_zero, List.drop_succ_cons, List.drop_zero, List.nil_append, List.cons_append, List.append_nil, List.length_cons, List.length_nil, List.replicate_one, List.set_cons_zero, List.isEmpty_cons, List.isEmpty_nil, List.append_assoc, Option.map_some, Option.getD_some, Option.any_some, Option.some.injEq, true_and, or_true, or_false, and_self, Bool.false_eq_true, Bool.not_true, Bool.and_true, Bool.and_false, decide_true, eq_self, reduceCtorEq, ↓reduceIte, Nat.reduceLT, Nat.reduceLeDiff, Nat.reduceEqDiff, Nat.reduceAdd, Nat.reduceBEq, Nat.zero_add, Nat.le_refl, Nat.one_mul, List.cons_ne_nil, exists_eq_left', ty22, ty33, ty36, ty48, ty59, if_neg, n3, cx, c3, w2, s1, s6, s7, s8, s9]
      exact ⟨_, base_fin hc1 c2 c0 (by omega) (by omega) (by omega) hl4, fun _ => ⟨by simp, .inr ⟨nc, by omega, by simp only; omega, rfl, by simp only; rw [upd_ne _ _ (by omega), upd_same]⟩⟩⟩
    · simp only at t2 t3
      have u1 : hc t = some (.tok 59) := by
        have e1 := hKa.2 t (by simp only; omega) (by omega)
        have e2 := hKb.2 t (by simp only; omega) (by omega)
        have e3 := hKc.2 t (by simp only; omega) (by omega)
        simp only at e1 e2 e3
        rw [e3, upd_ne _ _ (by omega), upd_ne _ _ (by omega), upd_ne _ _ (by omega), e2, upd_ne _ _ (by omega), e1, upd_ne _ _ (by omega), t3]
      have u2 : (ins.length + 1) * 10000 ≤ 140737488355328 := by omega
      have u3 : t ≠ 3 := by omega
      have u4 : (3 : Nat) ≠ t := by omega
      have u5 : n ≠ t := by omega

      simp (maxSteps := 1000000) (dsimp := false) (disch := omega) only [zwp_region_f, znil_none, nilTest_t, nilOf, zops_nil, zops_none, zstep_eq, zput_some, zput_none, zthen_some, vop, veval, vprt, vstore, vload, vpart, vblit, vlits, zeroElem, vbuiltin, vconv, vfaddr, vapp, vsrc, vgrow, strip0, upd_at, initFr_at, St.put, St.tok, V.cells, V.isVal, TD.agg, rret_n, vres, vresL, List.map_cons, List.map_nil, List.getElem?_cons_zero, List.getElem?_cons_succ, List.take_succ_cons, List.take_zero, List.drop_succ_cons, List.drop_zero, List.nil_append, List.cons_append, List.append_nil, List.length_cons, List.length_nil, List.length_map, List.replicate_one, List.set_cons_zero, List.isEmpty_cons, List.append_assoc, Option.map_some, Option.getD_some, Option.any_some, Option.some.injEq, true_and, true_or, or_false, and_self, Bool.false_eq_true, Bool.false_and, Bool.and_false, decide_false, eq_self, reduceCtorEq, ↓reduceIte, Nat.reduceLT, Nat.reduceLeDiff, Nat.reduceEqDiff, Nat.reduceAdd, Nat.reduceBEq, Nat.zero_add, Nat.le_refl, Nat.one_mul, List.cons_ne_nil, exists_eq_left', ty22, ty33, ty36, ty48, ty59, if_pos, if_neg, n3, cx, c3, w2, s1, s6, s7, s8, s9, u1, u4, List.length_map]
      exact ⟨_, base_fin hc1 c2 c0 (by omega) (by omega) (by omega) hl4, fun _ => ⟨by simp only [List.length_append, List.length_cons, List.length_nil]; omega, .inr ⟨nc, by omega, by simp only; omega, by simp only [List.map_append]; rfl, by simp only; rw [upd_ne _ _ (by omega), upd_same]⟩⟩⟩
end Go.Proofs.Ytkcapmodgkficaa
