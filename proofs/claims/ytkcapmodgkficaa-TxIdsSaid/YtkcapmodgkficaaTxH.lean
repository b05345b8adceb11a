/- Transactions: getting one's outs. -/
import Derived.Test.YtkcapmodgkficaaTxG
namespace Go.Proofs.Ytkcapmodgkficaa
open Go.Vx Go.Fl
set_option maxRecDepth 100000
set_option maxHeartbeats 4000000
set_option linter.unusedSimpArgs false
set_option linter.unusedVariables false

def GO (ver : Nat) (ins : List TIn) (X : V) (k : Nat) (a : RdT × List TOut) (σ : St) : Prop :=
  ∃ c, Base σ a.1 [.i .u32 (ver : Int), X, c, .i .u32 0] ∧ (a.1.2 = 0 → a.2.length ≤ k ∧ GrowS σ 2 60 (a.2.map ov) c ∧ GrowS σ 35 59 (ins.map iv) X)

theorem geto_ok (ver : Nat) (ins : List TIn) (X : V) (k : Nat) (a : RdT × List TOut) (σ : St) (hk : k < 1000) (he : a.1.2 = 0) (h : GO ver ins X k a σ) :
    VRef Try.prog 30 [.ptr 2 0, .ptr 3 0] σ (fun v σ' => v = .tup [] ∧ GO ver ins X (k + 1) (stepO a) σ') := by
  obtain ⟨R, outs⟩ := a
  obtain ⟨c, ⟨h1, h2, h0, h3, hn, hl⟩, hg⟩ := h
  obtain ⟨hk', hg, hx⟩ := hg he
  simp only at h1 h2 h0 h3 hn hl hk' hg hx he
  unfold stepO
  simp only
  have z3 := numP_lt 8 R
  have z4 := numP_len 8 R
  have y2 : ∀ s : St, s.h 1 = rcell R → 1 < s.n → _ := fun s hs hn => rnumber_ok s 1 R 8 (by omega) hn hs
  have q2 := @numP_err 8 R
  generalize numP 8 R = N1 at *
  obtain ⟨idx, R2⟩ := N1
  have z5 := scriptP_len R2
  simp only at z4
  have y3 : ∀ s : St, s.h 1 = rcell R2 → _ := fun s hs => rscript_ok s 1 R2 (by omega) hs
  have q3 := @scriptP_err R2
  simp only at z3 z5 q2 q3 ⊢
  generalize scriptP R2 = S at *
  obtain ⟨sc, R3⟩ := S
  simp only at y2 y3 z5 q3 ⊢
  have hl4 : R3.1.length ≤ 100000000 := by omega
  obtain ⟨h, n⟩ := σ
  simp only at h1 h2 h0 h3 hn
  have n0 : (0 : Nat) ≠ n := by omega
  have n1 : (1 : Nat) ≠ n := by omega
  have n2 : (2 : Nat) ≠ n := by omega
  have n3 : (3 : Nat) ≠ n := by omega
  refine ref_of_body (tyOf_ok _) mixed Try.func30 rfl rfl (fun d => if d = 13 then 1 else 0) (by kernel_rfl) (fun hwf => zin ?_)
  dsimp only [Try.f30]

  simp (maxSteps := 1000000) (dsimp := false) (disch := omega) only [zwp_region_f, zwp_seq, znil_none, nilTest_t, nilOf, zops_nil, zops_none, zstep_eq, zput_some, zthen_some, zfn_fn, vop, veval, toVs, toV1, valloc, vload, vpart, strip1, strip0, upd_at, initFr_at, St.new, hintOf, TD.agg, varg1, varg, vargs, List.map_cons, List.map_nil, List.getElem?_cons_zero, List.drop_zero, List.append_nil, Option.map_some, Option.getD_some, Bool.false_eq_true, Bool.or_false, eq_self, reduceCtorEq, ↓reduceIte, Nat.reduceEqDiff, ty60, ty71, n1, n2, h2]
  refine zcall_r (y2 _ (by simp only; rw [upd_ne _ _ n1]; exact h1) (by simp only; omega)) ?_
  rintro v ⟨hb, nb⟩ ⟨rfl, hb1, hKb⟩
  have bn : n + 1 ≤ nb := hKb.1
  have bx := hKb.2 n (by simp only; omega) (by omega)
  have b2 := hKb.2 2 (by simp only; omega) (by omega)
  have b0 := hKb.2 0 (by simp only; omega) (by omega)
  have b3 := hKb.2 3 (by simp only; omega) (by omega)
  simp only at hb1
  simp only [upd_same, upd_ne _ _ n2, upd_ne _ _ n3, upd_ne _ _ n0, h2, h3, h0] at bx b2 b3 b0

  simp (maxSteps := 1000000) (dsimp := false) (disch := omega) only [zwp_region_f, zwp_seq, znil_none, nilTest_t, nilOf, zops_nil, zops_none, zstep_eq, zput_some, zput_none, zthen_some, zfn_fn, vop, veval, vstore, vload, vpart, vfaddr, upd_at, initFr_at, St.put, hintOf, V.cells, V.isVal, TD.agg, varg1, varg, vargs, List.map_cons, List.map_nil, List.getElem?_cons_zero, List.take_zero, List.drop_succ_cons, List.drop_zero, List.nil_append, List.cons_append, List.append_nil, List.length_cons, List.length_nil, Option.map_some, Option.getD_some, and_self, Bool.false_eq_true, eq_self, reduceCtorEq, ↓reduceIte, Nat.reduceLeDiff, Nat.reduceEqDiff, Nat.reduceAdd, Nat.zero_add, Nat.add_zero, ty48, ty60, ty71, n1, n2, bx, b2]
  refine zcall_r (y3 _ (by simp only; rw [upd_ne _ _ n1]; exact hb1)) ?_
  rintro v s ⟨rfl, rfl⟩
  have m1 : n ≠ 1 := by omega
  have m0 : (0 : Nat) ≠ 1 := by omega
  have m2 : (2 : Nat) ≠ 1 := by omega
  have m3 : (3 : Nat) ≠ 1 := by omega
  have hX : ∀ t, 4 ≤ t → t < n → h t = some (.tok 59) → hb t = some (.tok 59) := fun t t1 t2 t3 => by
    have e2 := hKb.2 t (by simp only; omega) (by omega)
    simp only at e2
    rw [e2, upd_ne _ _ (by omega), t3]
  have hX2 : ∀ (A0 A Y Z : Option Ob) (t : Nat), (t = nb ∨ h t = some (.tok 60)) → GrowS ⟨upd (upd (upd (upd (upd (upd hb n A0) 1 (rcell R3)) n A) t none) nb Y) 3 Z, nb + 1⟩ 35 59 (ins.map iv) X := fun A0 A Y Z t ht => by
    rcases hx with hx | ⟨tx, x1, x2, x3, x4⟩
    · exact .inl hx
    · simp only at x2 x4
      have hne : tx ≠ t := by
        rcases ht with rfl | ht
        · omega
        · intro he
          subst he
          rw [ht] at x4
          exact absurd x4 (by simp)
      refine .inr ⟨tx, x1, by simp only; omega, x3, ?_⟩
      simp only
      rw [upd_ne _ _ (by omega), upd_ne _ _ (by omega), upd_ne _ _ hne, upd_ne _ _ (by omega), upd_ne _ _ (by omega), upd_ne _ _ (by omega)]
      exact hX tx x1 x2 x4
  have g1 : ∀ A0, upd (upd hb n A0) 1 (rcell R3) 1 = rcell R3 := fun A0 => upd_same _ _ _
  have g2 : ∀ A0, upd (upd hb n A0) 1 (rcell R3) 2 = some (.cells [.ptr 1 0]) := fun A0 => by rw [upd_ne _ _ m2, upd_ne _ _ n2]; exact b2
  have g0 : ∀ A0, upd (upd hb n A0) 1 (rcell R3) 0 = some (.cells [.i .u32 0, .sl 0 [] .clip, .sl 0 [] .clip, .i .u32 0]) := fun A0 => by rw [upd_ne _ _ m0, upd_ne _ _ n0]; exact b0
  cases sc with
  | none =>
    have hbad : ∀ {p : Prop}, R3.2 = 0 → p := fun h4 => by
      obtain ⟨-, l, h5⟩ := q3 h4
      cases h5
    rcases hg with ⟨hi, rfl⟩ | ⟨t, t1, t2, rfl, t3⟩
    · have hi0 : outs = [] := by simpa using hi
      subst hi0

      simp (maxSteps := 1000000) (dsimp := false) (disch := omega) only [zwp_region_f, znil_none, nilTest_t, nilOf, zops_nil, zops_none, zstep_eq, zput_some, zput_none, zthen_some, vop, veval, vprt, vstore, vload, vpart, vblit, vlits, zeroElem, vbuiltin, vfaddr, vapp, vsrc, vgrow, strip1, stripL, strip0, upd_at, initFr_at, St.put, St.tok, V.cells, V.isVal, TD.agg, rret_n, vres, vresL, List.map_cons, List.map_nil, List.getElem?_cons_zero, List.getElem?_cons_succ, List.take_succ_cons, List.take_zero, List.take_nil, List.drop_succ_cons, List.drop_zero, List.drop_nil, List.nil_append, List.cons_append, List.append_nil, List.length_cons, List.length_nil, List.replicate_one, List.set_cons_zero, List.isEmpty_cons, List.isEmpty_nil, Option.map_some, Option.getD_some, Option.getD_none, Option.any_some, Option.some.injEq, true_and, or_true, or_false, and_self, Bool.false_eq_true, Bool.not_true, Bool.and_true, Bool.and_false, decide_true, eq_self, reduceCtorEq, ↓reduceIte, Nat.reduceLT, Nat.reduceLeDiff, Nat.reduceEqDiff, Nat.reduceAdd, Nat.reduceBEq, Nat.zero_add, Nat.le_refl, Nat.one_mul, List.cons_ne_nil, exists_eq_left', ty27, ty34, ty36, ty60, if_neg, n3, m1, m3, b3, setR, takeV]
      exact ⟨_, base_fin (g1 _) (g2 _) (g0 _) (by omega) (by omega) (by omega) hl4, fun h4 => hbad h4⟩
    · simp only at t2 t3
      have u1 : hb t = some (.tok 60) := by
        have e2 := hKb.2 t (by simp only; omega) (by omega)
        simp only at e2
        rw [e2, upd_ne _ _ (by omega), t3]
      have u2 : (outs.length + 1) * 10000 ≤ 140737488355328 := by omega
      have u3 : t ≠ 3 := by omega
      have u4 : (3 : Nat) ≠ t := by omega
      have u5 : n ≠ t := by omega
      have u6 : t ≠ 1 := by omega
      have u7 : t ≠ n := by omega

      simp (maxSteps := 1000000) (dsimp := false) (disch := omega) only [zwp_region_f, znil_none, nilTest_t, nilOf, zops_nil, zops_none, zstep_eq, zput_some, zput_none, zthen_some, vop, veval, vprt, vstore, vload, vpart, vblit, vlits, zeroElem, vbuiltin, vfaddr, vapp, vsrc, vgrow, strip1, stripL, strip0, upd_at, initFr_at, St.put, St.tok, V.cells, V.isVal, TD.agg, rret_n, vres, vresL, List.map_cons, List.map_nil, List.getElem?_cons_zero, List.getElem?_cons_succ, List.take_succ_cons, List.take_zero, List.take_nil, List.drop_succ_cons, List.drop_zero, List.drop_nil, List.nil_append, List.cons_append, List.append_nil, List.length_cons, List.length_nil, List.length_map, List.replicate_one, List.set_cons_zero, List.isEmpty_cons, Option.map_some, Option.getD_some, Option.getD_none, Option.any_some, Option.some.injEq, true_and, true_or, or_false, and_self, Bool.false_eq_true, Bool.false_and, Bool.and_false, decide_false, eq_self, reduceCtorEq, ↓reduceIte, Nat.reduceLT, Nat.reduceLeDiff, Nat.reduceEqDiff, Nat.reduceAdd, Nat.reduceBEq, Nat.zero_add, Nat.le_refl, Nat.one_mul, List.cons_ne_nil, exists_eq_left', ty27, ty34, ty36, ty60, if_pos, if_neg, n3, m1, m3, b3, setR, takeV, u1, u4, u6, u7, List.length_map]
      exact ⟨_, base_fin (g1 _) (g2 _) (g0 _) (by omega) (by omega) (by omega) hl4, fun h4 => hbad h4⟩
  | some l =>
    rcases hg with ⟨hi, rfl⟩ | ⟨t, t1, t2, rfl, t3⟩
    · have hi0 : outs = [] := by simpa using hi
      subst hi0

      simp (maxSteps := 1000000) (dsimp := false) (disch := omega) only [zwp_region_f, znil_none, nilTest_t, nilOf, zops_nil, zops_none, zstep_eq, zput_some, zput_none, zthen_some, vop, veval, vprt, vstore, vload, vpart, vblit, vlits, zeroElem, vbuiltin, vfaddr, vapp, vsrc, vgrow, strip1, stripL, strip0, upd_at, initFr_at, St.put, St.tok, V.cells, V.isVal, TD.agg, rret_n, vres, vresL, List.map_cons, List.map_nil, List.getElem?_cons_zero, List.getElem?_cons_succ, List.take_succ_cons, List.take_zero, List.take_nil, List.drop_succ_cons, List.drop_zero, List.drop_nil, List.nil_append, List.cons_append, List.append_nil, List.length_cons, List.length_nil, List.replicate_one, List.set_cons_zero, List.isEmpty_cons, List.isEmpty_nil, Option.map_some, Option.getD_some, Option.any_some, Option.some.injEq, true_and, or_true, or_false, and_self, Bool.false_eq_true, Bool.not_true, Bool.and_true, Bool.and_false, decide_true, eq_self, reduceCtorEq, ↓reduceIte, Nat.reduceLT, Nat.reduceLeDiff, Nat.reduceEqDiff, Nat.reduceAdd, Nat.reduceBEq, Nat.zero_add, Nat.le_refl, Nat.one_mul, List.cons_ne_nil, exists_eq_left', ty27, ty34, ty36, ty60, if_neg, n3, m1, m3, b3, setR, takeV]
      exact ⟨_, base_fin (g1 _) (g2 _) (g0 _) (by omega) (by omega) (by omega) hl4, fun _ => ⟨by simp, .inr ⟨nb, by omega, by simp only; omega, rfl, by simp only; rw [upd_ne _ _ (by omega), upd_same]⟩, hX2 _ _ _ _ _ (.inl rfl)⟩⟩
    · simp only at t2 t3
      have u1 : hb t = some (.tok 60) := by
        have e2 := hKb.2 t (by simp only; omega) (by omega)
        simp only at e2
        rw [e2, upd_ne _ _ (by omega), t3]
      have u2 : (outs.length + 1) * 10000 ≤ 140737488355328 := by omega
      have u3 : t ≠ 3 := by omega
      have u4 : (3 : Nat) ≠ t := by omega
      have u5 : n ≠ t := by omega
      have u6 : t ≠ 1 := by omega
      have u7 : t ≠ n := by omega

      simp (maxSteps := 1000000) (dsimp := false) (disch := omega) only [zwp_region_f, znil_none, nilTest_t, nilOf, zops_nil, zops_none, zstep_eq, zput_some, zput_none, zthen_some, vop, veval, vprt, vstore, vload, vpart, vblit, vlits, zeroElem, vbuiltin, vfaddr, vapp, vsrc, vgrow, strip1, stripL, strip0, upd_at, initFr_at, St.put, St.tok, V.cells, V.isVal, TD.agg, rret_n, vres, vresL, List.map_cons, List.map_nil, List.getElem?_cons_zero, List.getElem?_cons_succ, List.take_succ_cons, List.take_zero, List.take_nil, List.drop_succ_cons, List.drop_zero, List.drop_nil, List.nil_append, List.cons_append, List.append_nil, List.length_cons, List.length_nil, List.length_map, List.replicate_one, List.set_cons_zero, List.isEmpty_cons, Option.map_some, Option.getD_some, Option.any_some, Option.some.injEq, true_and, true_or, or_false, and_self, Bool.false_eq_true, Bool.false_and, Bool.and_false, decide_false, eq_self, reduceCtorEq, ↓reduceIte, Nat.reduceLT, Nat.reduceLeDiff, Nat.reduceEqDiff, Nat.reduceAdd, Nat.reduceBEq, Nat.zero_add, Nat.le_refl, Nat.one_mul, List.cons_ne_nil, exists_eq_left', ty27, ty34, ty36, ty60, if_pos, if_neg, n3, m1, m3, b3, setR, takeV, u1, u4, u6, u7, List.length_map]
      exact ⟨_, base_fin (g1 _) (g2 _) (g0 _) (by omega) (by omega) (by omega) hl4, fun _ => ⟨by simp only [List.length_append, List.length_cons, List.length_nil]; omega, .inr ⟨nb, by omega, by simp only; omega, by simp only [List.map_append]; rfl, by simp only; rw [upd_ne _ _ (by omega), upd_same]⟩, hX2 _ _ _ _ _ (.inr t3)⟩⟩
end Go.Proofs.Ytkcapmodgkficaa
