/- Transactions: what touches. -/
import Derived.Test.YtkcapmodgkficaaTxE
namespace Go.Proofs.Ytkcapmodgkficaa
open Go.Vx Go.Fl
set_option maxRecDepth 100000
set_option maxHeartbeats 4000000
set_option linter.unusedSimpArgs false
set_option linter.unusedVariables false

theorem find_any {α : Type} (p : α → Bool) (l : List α) : (match l.findIdx? p with | some i => (i : Int) | none => -1) = -1 ∧ l.any p = false ∨ (∃ i : Nat, (match l.findIdx? p with | some i => (i : Int) | none => -1) = (i : Int)) ∧ l.any p = true := by
  cases hx : l.findIdx? p with
  | none =>
    rw [List.findIdx?_eq_none_iff] at hx
    exact .inl ⟨rfl, by simpa using hx⟩
  | some i =>
    rw [List.findIdx?_eq_some_iff_getElem] at hx
    obtain ⟨hi, hpi, -⟩ := hx
    exact .inr ⟨⟨i, rfl⟩, List.any_eq_true.2 ⟨l[i], List.getElem_mem hi, hpi⟩⟩
def sb (s : List UInt8) : V := .sl 1 (bv s) .no
def hv (h : List UInt8) : V := .agg (bv h)

theorem tiindex_ok (F : FuncId) (caps : List V) (p : TIn → Bool) (l : List TIn) (hp : ∀ x ∈ l, VPure Try.prog F ([iv x] ++ caps) (.b (p x))) (hX : ∀ x ∈ l, ivok x) (hc : vargs ⟨fun _ => none, 0⟩ caps = some (caps, false)) :
    VPure Try.prog 41 [.sl 35 (l.map iv) .no, .fn F caps] (.i .i64 (match l.findIdx? p with | some i => (i : Int) | none => -1)) := by
  refine VPure.lens (enters_of Try.func41 rfl rfl) fun hlen => ?_
  have hl : l.length ≤ 9223372036854775807 := by
    simpa [VLen, V.fn] using hlen
  clear hlen
  refine pure_of_body (tyOf_ok _) mixed Try.func41 rfl rfl (fun _ => 0) (by kernel_rfl) (zin ?_)
  dsimp only [Try.f41]

  simp (maxSteps := 1000000) (dsimp := false) (disch := omega) only [zwp_region_f, zwp_seq, zwp_block, znil_none, nilTest_t, nilOf, zops_nil, zops_none, zstep_eq, zput_some, zthen_some, vop, veval, toVs, toV1, vbuiltin, vlen, upd_at, initFr_at, List.map_cons, List.map_nil, List.getElem?_cons_zero, List.length_map, Option.map_some, Option.getD_some, eq_self, reduceCtorEq, ↓reduceIte, ty33, List.length_map]
  refine zloop l.length (fun k fr σ => fr 0 = .sl 35 (l.map iv) .no ∧ fr 1 = .fn F caps ∧ fr 7 = .i .i64 (l.length : Int) ∧ fr 8 = .i .i64 (k : Int) ∧ σ = ⟨fun _ => none, 0⟩ ∧ ∀ j (h : j < l.length), j < k → p l[j] = false) ⟨rfl, rfl, rfl, rfl, rfl, fun j h hj => by omega⟩ ?_
  rintro k fr σ hk ⟨h0, h1, h7, h8, rfl, hnot⟩
  by_cases hlt : k < l.length
  · have hlt' : (k : Int) < (l.length : Int) := by omega
    have hg : (l.map iv)[k]? = some (iv l[k]) := by simp [hlt]
    have hP := hp l[k] (List.getElem_mem hlt)
    obtain ⟨x, hx⟩ : ∃ x, x = l[k] := ⟨_, rfl⟩
    have hmem : x ∈ l := hx ▸ List.getElem_mem hlt
    rw [← hx] at hg hP
    have hcc : ∀ v : V, vargs ⟨fun _ => none, 0⟩ (v :: caps) = (match varg ⟨fun _ => none, 0⟩ v with | some (u, b) => some (u :: caps, b || false) | none => none) := fun v => by
      simp only [vargs, hc]
      rcases varg ⟨fun _ => none, 0⟩ v with _ | ⟨u, b⟩ <;> simp
    obtain ⟨c, hec, hc1, hc2, hc3⟩ := hX x hmem
    have hc4 : c.take 35 = c := List.take_of_length_le (by omega)
    rw [hec] at hg hP

    simp (maxSteps := 1000000) (dsimp := false) (disch := omega) only [zwp_skip, zwp_region_f, zwp_seq, zwp_cond, zwp_block, znil_none, nilTest_t, nilOf, zops_nil, zops_none, zstep_eq, zput_some, zcond_t, zthen_some, zfn_fn, int_lt0, vop, veval, vload, vpart, vbinX, vbin, vint, BinOp.sh, viaddr, strip0, upd_at, hintOf, V.cells, TD.agg, varg1, varg, List.map_cons, List.map_nil, List.drop_zero, List.nil_append, List.cons_append, Option.map_some, Bool.false_eq_true, Bool.or_false, decide_true, eq_self, reduceCtorEq, ↓reduceIte, Nat.reduceEqDiff, Nat.zero_add, Nat.le_refl, Int.toNat_natCast, ty3, ty33, ty59, h0, h1, h7, h8, hlt', hg, hc1, hc3, hc4, hcc]
    refine zcall_pure (hP) (by first | exact fun h => Bool.noConfusion h | exact fun _ => rfl | exact fun _ => free_bv _ _ _) ?_
    cases hpk : p x with
    | true =>
      have hf : l.findIdx? p = some k := by
        rw [List.findIdx?_eq_some_iff_getElem]
        exact ⟨hlt, by rw [← hx]; exact hpk, fun j hj => by simp [hnot j (by omega) hj]⟩
      rw [hf]
      simp (maxSteps := 1000000) (dsimp := false) (disch := omega) only [zwp_region_f, zwp_seq, zwp_cond, zwp_ret, znil_none, nilTest_t, nilOf, zops_nil, zops_none, zstep_eq, zput_some, zcond_t, zthen_some, vop, veval, strip1, strip0, strip, upd_at, vrecv, vret_r, vres, vresL, vseal, Option.map_some, Option.bind_some, Option.some.injEq, eq_self, ↓reduceIte, Nat.reduceEqDiff, exists_eq_left', Vle_self]
    | false =>
      simp (maxSteps := 1000000) (dsimp := false) (disch := omega) only [zwp_skip, zwp_region_f, zwp_cond, znil_none, nilTest_t, nilOf, zops_nil, zops_none, zstep_eq, zput_some, zcond_f, zthen_some, vop, veval, toVs, toV1, vbinX, vbin, vint, BinOp.sh, upd_at, vrecv, Option.map_some, V.i.injEq, true_and, Bool.false_eq_true, eq_self, reduceCtorEq, ↓reduceIte, Nat.reduceEqDiff, ty3, wrap_i64, h0, h1, h7, h8]
      refine ⟨hlt, by omega, fun j h hj => ?_⟩
      by_cases he : j = k
      · subst he; rw [← hx]; exact hpk
      · exact hnot j h (by omega)
  · have hlt' : ¬ (k : Int) < (l.length : Int) := by omega

    simp (maxSteps := 1000000) (dsimp := false) (disch := omega) only [zwp_region_f, zwp_seq, zwp_cond, zwp_exit, zwp_ret, znil_none, nilTest_t, nilOf, zops_nil, zops_none, zstep_eq, zput_some, zcond_f, zthen_some, vop, veval, toVs, toV1, vbinX, vbin, vint, BinOp.sh, strip1, strip0, strip, upd_at, vret_r, vres, vresL, vseal, Option.map_some, Option.bind_some, Option.some.injEq, Bool.false_eq_true, decide_false, eq_self, ↓reduceIte, Int.reduceNeg, exists_eq_left', ty3, h7, h8, hlt']
    have : l.findIdx? p = none := by
      rw [List.findIdx?_eq_none_iff]
      intro x hx
      obtain ⟨j, hj, rfl⟩ := List.getElem_of_mem hx
      exact hnot j hj (by omega)
    rw [this]
    exact .refl _
theorem tiany_ok (F : FuncId) (caps : List V) (p : TIn → Bool) (l : List TIn) (hp : ∀ x ∈ l, VPure Try.prog F ([iv x] ++ caps) (.b (p x))) (hX : ∀ x ∈ l, ivok x) (hc : vargs ⟨fun _ => none, 0⟩ caps = some (caps, false)) (hv1 : vargs1 ⟨fun _ => none, 0⟩ caps = some (caps, false)) :
    VPure Try.prog 21 [.sl 35 (l.map iv) .no, .fn F caps] (.b (l.any p)) := by
  have I := tiindex_ok F caps p l hp hX hc
  rcases find_any p l with ⟨h1, h2⟩ | ⟨⟨i, h1⟩, h2⟩
  · rw [h1] at I
    rw [h2]
    refine pure_of_body (tyOf_ok _) mixed Try.func21 rfl rfl (fun _ => 0) (by kernel_rfl) (zin ?_)
    dsimp only [Try.f21]

    simp (maxSteps := 1000000) (dsimp := false) (disch := omega) only [zwp_region_f, zwp_seq, znil_none, nilTest_t, nilOf, zops_nil, zops_none, zstep_eq, zput_some, zthen_some, zfn_fn, vop, veval, toVs, toV1, strip1, strip0, upd_at, initFr_at, hintOf, varg1, varg, vargs, List.map_cons, List.map_nil, List.getElem?_cons_zero, List.getElem?_cons_succ, List.append_nil, Option.map_some, Option.getD_some, Bool.or_false, eq_self, reduceCtorEq, ↓reduceIte, Nat.reduceEqDiff, hv1]
    refine zcall_pure (I) (by first | exact fun h => Bool.noConfusion h | exact fun _ => rfl | exact fun _ => free_bv _ _ _) ?_
    simp (maxSteps := 1000000) (dsimp := false) (disch := omega) only [zwp_ret, znil_none, nilTest_t, nilOf, zops_nil, zops_none, zstep_eq, zput_some, zthen_some, vop, veval, toVs, toV1, vbinX, vbin, vint, BinOp.sh, strip1, strip0, strip, upd_at, vrecv, vret_r, vres, vresL, vseal, Option.map_some, Option.bind_some, Option.some.injEq, Bool.false_eq_true, decide_false, eq_self, ↓reduceIte, Int.reduceLE, Int.reduceNeg, exists_eq_left', Vle_self, ty3, ge_iff_le]
  · rw [h1] at I
    rw [h2]
    refine pure_of_body (tyOf_ok _) mixed Try.func21 rfl rfl (fun _ => 0) (by kernel_rfl) (zin ?_)
    dsimp only [Try.f21]

    simp (maxSteps := 1000000) (dsimp := false) (disch := omega) only [zwp_region_f, zwp_seq, znil_none, nilTest_t, nilOf, zops_nil, zops_none, zstep_eq, zput_some, zthen_some, zfn_fn, vop, veval, toVs, toV1, strip1, strip0, upd_at, initFr_at, hintOf, varg1, varg, vargs, List.map_cons, List.map_nil, List.getElem?_cons_zero, List.getElem?_cons_succ, List.append_nil, Option.map_some, Option.getD_some, Bool.or_false, eq_self, reduceCtorEq, ↓reduceIte, Nat.reduceEqDiff, hv1]
    refine zcall_pure (I) (by first | exact fun h => Bool.noConfusion h | exact fun _ => rfl | exact fun _ => free_bv _ _ _) ?_
    simp (maxSteps := 1000000) (dsimp := false) (disch := omega) only [zwp_ret, znil_none, nilTest_t, nilOf, zops_nil, zops_none, zstep_eq, zput_some, zthen_some, int_le0, vop, veval, toVs, toV1, vbinX, vbin, vint, BinOp.sh, strip1, strip0, strip, upd_at, vrecv, vret_r, vres, vresL, vseal, Option.map_some, Option.bind_some, Option.some.injEq, Bool.false_eq_true, decide_true, eq_self, ↓reduceIte, exists_eq_left', Vle_self, ty3, ge_iff_le]

theorem toindex_ok (F : FuncId) (caps : List V) (p : TOut → Bool) (l : List TOut) (hp : ∀ x ∈ l, VPure Try.prog F ([ov x] ++ caps) (.b (p x))) (hX : ∀ x ∈ l, ovok x) (hc : vargs ⟨fun _ => none, 0⟩ caps = some (caps, false)) :
    VPure Try.prog 42 [.sl 2 (l.map ov) .no, .fn F caps] (.i .i64 (match l.findIdx? p with | some i => (i : Int) | none => -1)) := by
  refine VPure.lens (enters_of Try.func42 rfl rfl) fun hlen => ?_
  have hl : l.length ≤ 9223372036854775807 := by
    simpa [VLen, V.fn] using hlen
  clear hlen
  refine pure_of_body (tyOf_ok _) mixed Try.func42 rfl rfl (fun _ => 0) (by kernel_rfl) (zin ?_)
  dsimp only [Try.f42]

  simp (maxSteps := 1000000) (dsimp := false) (disch := omega) only [zwp_region_f, zwp_seq, zwp_block, znil_none, nilTest_t, nilOf, zops_nil, zops_none, zstep_eq, zput_some, zthen_some, vop, veval, toVs, toV1, vbuiltin, vlen, upd_at, initFr_at, List.map_cons, List.map_nil, List.getElem?_cons_zero, List.length_map, Option.map_some, Option.getD_some, eq_self, reduceCtorEq, ↓reduceIte, ty34, List.length_map]
  refine zloop l.length (fun k fr σ => fr 0 = .sl 2 (l.map ov) .no ∧ fr 1 = .fn F caps ∧ fr 7 = .i .i64 (l.length : Int) ∧ fr 8 = .i .i64 (k : Int) ∧ σ = ⟨fun _ => none, 0⟩ ∧ ∀ j (h : j < l.length), j < k → p l[j] = false) ⟨rfl, rfl, rfl, rfl, rfl, fun j h hj => by omega⟩ ?_
  rintro k fr σ hk ⟨h0, h1, h7, h8, rfl, hnot⟩
  by_cases hlt : k < l.length
  · have hlt' : (k : Int) < (l.length : Int) := by omega
    have hg : (l.map ov)[k]? = some (ov l[k]) := by simp [hlt]
    have hP := hp l[k] (List.getElem_mem hlt)
    obtain ⟨x, hx⟩ : ∃ x, x = l[k] := ⟨_, rfl⟩
    have hmem : x ∈ l := hx ▸ List.getElem_mem hlt
    rw [← hx] at hg hP
    have hcc : ∀ v : V, vargs ⟨fun _ => none, 0⟩ (v :: caps) = (match varg ⟨fun _ => none, 0⟩ v with | some (u, b) => some (u :: caps, b || false) | none => none) := fun v => by
      simp only [vargs, hc]
      rcases varg ⟨fun _ => none, 0⟩ v with _ | ⟨u, b⟩ <;> simp
    obtain ⟨c, hec, hc1, hc2, hc3⟩ := hX x hmem
    have hc4 : c.take 2 = c := List.take_of_length_le (by omega)
    rw [hec] at hg hP

    simp (maxSteps := 1000000) (dsimp := false) (disch := omega) only [zwp_skip, zwp_region_f, zwp_seq, zwp_cond, zwp_block, znil_none, nilTest_t, nilOf, zops_nil, zops_none, zstep_eq, zput_some, zcond_t, zthen_some, zfn_fn, int_lt0, vop, veval, vload, vpart, vbinX, vbin, vint, BinOp.sh, viaddr, strip0, upd_at, hintOf, V.cells, TD.agg, varg1, varg, List.map_cons, List.map_nil, List.drop_zero, List.nil_append, List.cons_append, Option.map_some, Bool.false_eq_true, Bool.or_false, decide_true, eq_self, reduceCtorEq, ↓reduceIte, Nat.reduceEqDiff, Nat.zero_add, Nat.le_refl, Int.toNat_natCast, ty3, ty34, ty60, h0, h1, h7, h8, hlt', hg, hc1, hc3, hc4, hcc]
    refine zcall_pure (hP) (by first | exact fun h => Bool.noConfusion h | exact fun _ => rfl | exact fun _ => free_bv _ _ _) ?_
    cases hpk : p x with
    | true =>
      have hf : l.findIdx? p = some k := by
        rw [List.findIdx?_eq_some_iff_getElem]
        exact ⟨hlt, by rw [← hx]; exact hpk, fun j hj => by simp [hnot j (by omega) hj]⟩
      rw [hf]
      simp (maxSteps := 1000000) (dsimp := false) (disch := omega) only [zwp_region_f, zwp_seq, zwp_cond, zwp_ret, znil_none, nilTest_t, nilOf, zops_nil, zops_none, zstep_eq, zput_some, zcond_t, zthen_some, vop, veval, strip1, strip0, strip, upd_at, vrecv, vret_r, vres, vresL, vseal, Option.map_some, Option.bind_some, Option.some.injEq, eq_self, ↓reduceIte, Nat.reduceEqDiff, exists_eq_left', Vle_self]
    | false =>
      simp (maxSteps := 1000000) (dsimp := false) (disch := omega) only [zwp_skip, zwp_region_f, zwp_cond, znil_none, nilTest_t, nilOf, zops_nil, zops_none, zstep_eq, zput_some, zcond_f, zthen_some, vop, veval, toVs, toV1, vbinX, vbin, vint, BinOp.sh, upd_at, vrecv, Option.map_some, V.i.injEq, true_and, Bool.false_eq_true, eq_self, reduceCtorEq, ↓reduceIte, Nat.reduceEqDiff, ty3, wrap_i64, h0, h1, h7, h8]
      refine ⟨hlt, by omega, fun j h hj => ?_⟩
      by_cases he : j = k
      · subst he; rw [← hx]; exact hpk
      · exact hnot j h (by omega)
  · have hlt' : ¬ (k : Int) < (l.length : Int) := by omega

    simp (maxSteps := 1000000) (dsimp := false) (disch := omega) only [zwp_region_f, zwp_seq, zwp_cond, zwp_exit, zwp_ret, znil_none, nilTest_t, nilOf, zops_nil, zops_none, zstep_eq, zput_some, zcond_f, zthen_some, vop, veval, toVs, toV1, vbinX, vbin, vint, BinOp.sh, strip1, strip0, strip, upd_at, vret_r, vres, vresL, vseal, Option.map_some, Option.bind_some, Option.some.injEq, Bool.false_eq_true, decide_false, eq_self, ↓reduceIte, Int.reduceNeg, exists_eq_left', ty3, h7, h8, hlt']
    have : l.findIdx? p = none := by
      rw [List.findIdx?_eq_none_iff]
      intro x hx
      obtain ⟨j, hj, rfl⟩ := List.getElem_of_mem hx
      exact hnot j hj (by omega)
    rw [this]
    exact .refl _
theorem toany_ok (F : FuncId) (caps : List V) (p : TOut → Bool) (l : List TOut) (hp : ∀ x ∈ l, VPure Try.prog F ([ov x] ++ caps) (.b (p x))) (hX : ∀ x ∈ l, ovok x) (hc : vargs ⟨fun _ => none, 0⟩ caps = some (caps, false)) (hv1 : vargs1 ⟨fun _ => none, 0⟩ caps = some (caps, false)) :
    VPure Try.prog 23 [.sl 2 (l.map ov) .no, .fn F caps] (.b (l.any p)) := by
  have I := toindex_ok F caps p l hp hX hc
  rcases find_any p l with ⟨h1, h2⟩ | ⟨⟨i, h1⟩, h2⟩
  · rw [h1] at I
    rw [h2]
    refine pure_of_body (tyOf_ok _) mixed Try.func23 rfl rfl (fun _ => 0) (by kernel_rfl) (zin ?_)
    dsimp only [Try.f23]

    simp (maxSteps := 1000000) (dsimp := false) (disch := omega) only [zwp_region_f, zwp_seq, znil_none, nilTest_t, nilOf, zops_nil, zops_none, zstep_eq, zput_some, zthen_some, zfn_fn, vop, veval, toVs, toV1, strip1, strip0, upd_at, initFr_at, hintOf, varg1, varg, vargs, List.map_cons, List.map_nil, List.getElem?_cons_zero, List.getElem?_cons_succ, List.append_nil, Option.map_some, Option.getD_some, Bool.or_false, eq_self, reduceCtorEq, ↓reduceIte, Nat.reduceEqDiff, hv1]
    refine zcall_pure (I) (by first | exact fun h => Bool.noConfusion h | exact fun _ => rfl | exact fun _ => free_bv _ _ _) ?_
    simp (maxSteps := 1000000) (dsimp := false) (disch := omega) only [zwp_ret, znil_none, nilTest_t, nilOf, zops_nil, zops_none, zstep_eq, zput_some, zthen_some, vop, veval, toVs, toV1, vbinX, vbin, vint, BinOp.sh, strip1, strip0, strip, upd_at, vrecv, vret_r, vres, vresL, vseal, Option.map_some, Option.bind_some, Option.some.injEq, Bool.false_eq_true, decide_false, eq_self, ↓reduceIte, Int.reduceLE, Int.reduceNeg, exists_eq_left', Vle_self, ty3, ge_iff_le]
  · rw [h1] at I
    rw [h2]
    refine pure_of_body (tyOf_ok _) mixed Try.func23 rfl rfl (fun _ => 0) (by kernel_rfl) (zin ?_)
    dsimp only [Try.f23]

    simp (maxSteps := 1000000) (dsimp := false) (disch := omega) only [zwp_region_f, zwp_seq, znil_none, nilTest_t, nilOf, zops_nil, zops_none, zstep_eq, zput_some, zthen_some, zfn_fn, vop, veval, toVs, toV1, strip1, strip0, upd_at, initFr_at, hintOf, varg1, varg, vargs, List.map_cons, List.map_nil, List.getElem?_cons_zero, List.getElem?_cons_succ, List.append_nil, Option.map_some, Option.getD_some, Bool.or_false, eq_self, reduceCtorEq, ↓reduceIte, Nat.reduceEqDiff, hv1]
    refine zcall_pure (I) (by first | exact fun h => Bool.noConfusion h | exact fun _ => rfl | exact fun _ => free_bv _ _ _) ?_
    simp (maxSteps := 1000000) (dsimp := false) (disch := omega) only [zwp_ret, znil_none, nilTest_t, nilOf, zops_nil, zops_none, zstep_eq, zput_some, zthen_some, int_le0, vop, veval, toVs, toV1, vbinX, vbin, vint, BinOp.sh, strip1, strip0, strip, upd_at, vrecv, vret_r, vres, vresL, vseal, Option.map_some, Option.bind_some, Option.some.injEq, Bool.false_eq_true, decide_true, eq_self, ↓reduceIte, exists_eq_left', Vle_self, ty3, ge_iff_le]

theorem tbindex_ok (F : FuncId) (caps : List V) (p : (List UInt8) → Bool) (l : List (List UInt8)) (hp : ∀ x ∈ l, VPure Try.prog F ([sb x] ++ caps) (.b (p x))) (hc : vargs ⟨fun _ => none, 0⟩ caps = some (caps, false)) :
    VPure Try.prog 47 [.sl 1 (l.map sb) .no, .fn F caps] (.i .i64 (match l.findIdx? p with | some i => (i : Int) | none => -1)) := by
  refine VPure.lens (enters_of Try.func47 rfl rfl) fun hlen => ?_
  have hl : l.length ≤ 9223372036854775807 := by
    simpa [VLen, V.fn] using hlen
  clear hlen
  refine pure_of_body (tyOf_ok _) mixed Try.func47 rfl rfl (fun _ => 0) (by kernel_rfl) (zin ?_)
  dsimp only [Try.f47]

  simp (maxSteps := 1000000) (dsimp := false) (disch := omega) only [zwp_region_f, zwp_seq, zwp_block, znil_none, nilTest_t, nilOf, zops_nil, zops_none, zstep_eq, zput_some, zthen_some, vop, veval, toVs, toV1, vbuiltin, vlen, upd_at, initFr_at, List.map_cons, List.map_nil, List.getElem?_cons_zero, List.length_map, Option.map_some, Option.getD_some, eq_self, reduceCtorEq, ↓reduceIte, ty45, List.length_map]
  refine zloop l.length (fun k fr σ => fr 0 = .sl 1 (l.map sb) .no ∧ fr 1 = .fn F caps ∧ fr 7 = .i .i64 (l.length : Int) ∧ fr 8 = .i .i64 (k : Int) ∧ σ = ⟨fun _ => none, 0⟩ ∧ ∀ j (h : j < l.length), j < k → p l[j] = false) ⟨rfl, rfl, rfl, rfl, rfl, fun j h hj => by omega⟩ ?_
  rintro k fr σ hk ⟨h0, h1, h7, h8, rfl, hnot⟩
  by_cases hlt : k < l.length
  · have hlt' : (k : Int) < (l.length : Int) := by omega
    have hg : (l.map sb)[k]? = some (sb l[k]) := by simp [hlt]
    have hP := hp l[k] (List.getElem_mem hlt)
    obtain ⟨x, hx⟩ : ∃ x, x = l[k] := ⟨_, rfl⟩
    have hmem : x ∈ l := hx ▸ List.getElem_mem hlt
    rw [← hx] at hg hP
    have hcc : ∀ v : V, vargs ⟨fun _ => none, 0⟩ (v :: caps) = (match varg ⟨fun _ => none, 0⟩ v with | some (u, b) => some (u :: caps, b || false) | none => none) := fun v => by
      simp only [vargs, hc]
      rcases varg ⟨fun _ => none, 0⟩ v with _ | ⟨u, b⟩ <;> simp
    have hst : strip (sb x) = some (sb x) := rfl

    simp only [sb] at hP hg
    simp (maxSteps := 1000000) (dsimp := false) (disch := omega) only [zwp_skip, zwp_region_f, zwp_seq, zwp_cond, zwp_block, znil_none, nilTest_t, nilOf, zops_nil, zops_none, zstep_eq, zput_some, zcond_t, zthen_some, zfn_fn, int_lt0, vop, veval, vload, vpart, vbinX, vbin, vint, BinOp.sh, viaddr, strip1, strip0, upd_at, hintOf, V.cells, TD.agg, varg1, varg, List.map_cons, List.map_nil, List.getElem?_cons_zero, List.nil_append, List.cons_append, Option.map_some, Bool.false_eq_true, Bool.or_false, decide_true, eq_self, reduceCtorEq, ↓reduceIte, Nat.reduceEqDiff, Int.toNat_natCast, ty3, ty27, ty45, h0, h1, h7, h8, hlt', hg, hcc]
    refine zcall_pure (hP) (by first | exact fun h => Bool.noConfusion h | exact fun _ => rfl | exact fun _ => free_bv _ _ _) ?_
    cases hpk : p x with
    | true =>
      have hf : l.findIdx? p = some k := by
        rw [List.findIdx?_eq_some_iff_getElem]
        exact ⟨hlt, by rw [← hx]; exact hpk, fun j hj => by simp [hnot j (by omega) hj]⟩
      rw [hf]
      simp (maxSteps := 1000000) (dsimp := false) (disch := omega) only [zwp_region_f, zwp_seq, zwp_cond, zwp_ret, znil_none, nilTest_t, nilOf, zops_nil, zops_none, zstep_eq, zput_some, zcond_t, zthen_some, vop, veval, strip1, strip0, strip, upd_at, vrecv, vret_r, vres, vresL, vseal, Option.map_some, Option.bind_some, Option.some.injEq, eq_self, ↓reduceIte, Nat.reduceEqDiff, exists_eq_left', Vle_self]
    | false =>
      simp (maxSteps := 1000000) (dsimp := false) (disch := omega) only [zwp_skip, zwp_region_f, zwp_cond, znil_none, nilTest_t, nilOf, zops_nil, zops_none, zstep_eq, zput_some, zcond_f, zthen_some, vop, veval, toVs, toV1, vbinX, vbin, vint, BinOp.sh, upd_at, vrecv, Option.map_some, V.i.injEq, true_and, Bool.false_eq_true, eq_self, reduceCtorEq, ↓reduceIte, Nat.reduceEqDiff, ty3, wrap_i64, h0, h1, h7, h8]
      refine ⟨hlt, by omega, fun j h hj => ?_⟩
      by_cases he : j = k
      · subst he; rw [← hx]; exact hpk
      · exact hnot j h (by omega)
  · have hlt' : ¬ (k : Int) < (l.length : Int) := by omega

    simp (maxSteps := 1000000) (dsimp := false) (disch := omega) only [zwp_region_f, zwp_seq, zwp_cond, zwp_exit, zwp_ret, znil_none, nilTest_t, nilOf, zops_nil, zops_none, zstep_eq, zput_some, zcond_f, zthen_some, vop, veval, toVs, toV1, vbinX, vbin, vint, BinOp.sh, strip1, strip0, strip, upd_at, vret_r, vres, vresL, vseal, Option.map_some, Option.bind_some, Option.some.injEq, Bool.false_eq_true, decide_false, eq_self, ↓reduceIte, Int.reduceNeg, exists_eq_left', ty3, h7, h8, hlt']
    have : l.findIdx? p = none := by
      rw [List.findIdx?_eq_none_iff]
      intro x hx
      obtain ⟨j, hj, rfl⟩ := List.getElem_of_mem hx
      exact hnot j hj (by omega)
    rw [this]
    exact .refl _
theorem tbany_ok (F : FuncId) (caps : List V) (p : (List UInt8) → Bool) (l : List (List UInt8)) (hp : ∀ x ∈ l, VPure Try.prog F ([sb x] ++ caps) (.b (p x))) (hc : vargs ⟨fun _ => none, 0⟩ caps = some (caps, false)) (hv1 : vargs1 ⟨fun _ => none, 0⟩ caps = some (caps, false)) :
    VPure Try.prog 32 [.sl 1 (l.map sb) .no, .fn F caps] (.b (l.any p)) := by
  have I := tbindex_ok F caps p l hp  hc
  rcases find_any p l with ⟨h1, h2⟩ | ⟨⟨i, h1⟩, h2⟩
  · rw [h1] at I
    rw [h2]
    refine pure_of_body (tyOf_ok _) mixed Try.func32 rfl rfl (fun _ => 0) (by kernel_rfl) (zin ?_)
    dsimp only [Try.f32]

    simp (maxSteps := 1000000) (dsimp := false) (disch := omega) only [zwp_region_f, zwp_seq, znil_none, nilTest_t, nilOf, zops_nil, zops_none, zstep_eq, zput_some, zthen_some, zfn_fn, vop, veval, toVs, toV1, strip1, strip0, upd_at, initFr_at, hintOf, varg1, varg, vargs, List.map_cons, List.map_nil, List.getElem?_cons_zero, List.getElem?_cons_succ, List.append_nil, Option.map_some, Option.getD_some, Bool.or_false, eq_self, reduceCtorEq, ↓reduceIte, Nat.reduceEqDiff, hv1]
    refine zcall_pure (I) (by first | exact fun h => Bool.noConfusion h | exact fun _ => rfl | exact fun _ => free_bv _ _ _) ?_
    simp (maxSteps := 1000000) (dsimp := false) (disch := omega) only [zwp_ret, znil_none, nilTest_t, nilOf, zops_nil, zops_none, zstep_eq, zput_some, zthen_some, vop, veval, toVs, toV1, vbinX, vbin, vint, BinOp.sh, strip1, strip0, strip, upd_at, vrecv, vret_r, vres, vresL, vseal, Option.map_some, Option.bind_some, Option.some.injEq, Bool.false_eq_true, decide_false, eq_self, ↓reduceIte, Int.reduceLE, Int.reduceNeg, exists_eq_left', Vle_self, ty3, ge_iff_le]
  · rw [h1] at I
    rw [h2]
    refine pure_of_body (tyOf_ok _) mixed Try.func32 rfl rfl (fun _ => 0) (by kernel_rfl) (zin ?_)
    dsimp only [Try.f32]

    simp (maxSteps := 1000000) (dsimp := false) (disch := omega) only [zwp_region_f, zwp_seq, znil_none, nilTest_t, nilOf, zops_nil, zops_none, zstep_eq, zput_some, zthen_some, zfn_fn, vop, veval, toVs, toV1, strip1, strip0, upd_at, initFr_at, hintOf, varg1, varg, vargs, List.map_cons, List.map_nil, List.getElem?_cons_zero, List.getElem?_cons_succ, List.append_nil, Option.map_some, Option.getD_some, Bool.or_false, eq_self, reduceCtorEq, ↓reduceIte, Nat.reduceEqDiff, hv1]
    refine zcall_pure (I) (by first | exact fun h => Bool.noConfusion h | exact fun _ => rfl | exact fun _ => free_bv _ _ _) ?_
    simp (maxSteps := 1000000) (dsimp := false) (disch := omega) only [zwp_ret, znil_none, nilTest_t, nilOf, zops_nil, zops_none, zstep_eq, zput_some, zthen_some, int_le0, vop, veval, toVs, toV1, vbinX, vbin, vint, BinOp.sh, strip1, strip0, strip, upd_at, vrecv, vret_r, vres, vresL, vseal, Option.map_some, Option.bind_some, Option.some.injEq, Bool.false_eq_true, decide_true, eq_self, ↓reduceIte, exists_eq_left', Vle_self, ty3, ge_iff_le]

theorem equal_ok (a b : List UInt8) : VPure Try.prog 34 [.sl 1 (bv a) .no, .sl 1 (bv b) .no] (.b (decide (a = b))) := by
  refine pure_of_body (tyOf_ok _) mixed Try.func34 rfl rfl (fun _ => 0) (by kernel_rfl) (zin ?_)
  dsimp only [Try.f34]

  simp (maxSteps := 1000000) (dsimp := false) (disch := omega) only [zwp_region_f, zwp_seq, zwp_ret, znil_none, nilTest_t, nilOf, zops_nil, zops_none, zstep_eq, zput_some, zthen_some, vop, veval, toVs, toV1, vbinX, vbin, vconv, strip1, strip0, strip, upd_at, initFr_at, vret_r, vres, vresL, vseal, List.getElem?_cons_zero, List.getElem?_cons_succ, Option.map_some, Option.getD_some, Option.bind_some, Option.some.injEq, true_or, eq_self, reduceCtorEq, ↓reduceIte, Nat.reduceEqDiff, exists_eq_left', ty5, ty9, ty27, unbv_bv]
  exact .of_eq (by by_cases h : a = b <;> simp [h])

def outHit (scripts : List (List UInt8)) (y : TOut) : Bool := scripts.any fun s => decide (s = y.2)
def inHit (spent : List (List UInt8)) (x : TIn) : Bool := spent.any fun h => decide (x.1 = h)
def touchB (t : TxT) (scripts spent : List (List UInt8)) : Bool := t.2.2.1.any (outHit scripts) || t.2.1.any (inHit spent)

theorem touch11_ok (s l : List UInt8) (n : Nat) : VPure Try.prog 33 [sb s, .rp [.i .u64 (n : Int), .sl 1 (bv l) .no]] (.b (decide (s = l))) := by
  refine pure_of_body (tyOf_ok _) mixed Try.func33 rfl rfl (fun _ => 0) (by kernel_rfl) (zin ?_)
  dsimp only [Try.f33]

  simp (maxSteps := 1000000) (dsimp := false) (disch := omega) only [zwp_region_f, zwp_seq, znil_none, nilTest_t, nilOf, zops_nil, zops_none, zstep_eq, zput_some, zthen_some, zfn_fn, vop, veval, toVs, toV1, vload, vpart, vfaddr, strip1, strip0, upd_at, initFr_at, hintOf, TD.agg, varg1, varg, vargs, List.map_cons, List.map_nil, List.getElem?_cons_zero, List.getElem?_cons_succ, List.drop_succ_cons, List.drop_zero, List.append_nil, Option.map_some, Option.getD_some, Bool.false_eq_true, Bool.or_false, eq_self, reduceCtorEq, ↓reduceIte, Nat.reduceEqDiff, ty27, ty60, sb]
  refine zcall_pure (equal_ok s l) (by first | exact fun h => Bool.noConfusion h | exact fun _ => rfl | exact fun _ => free_bv _ _ _) ?_
  simp (maxSteps := 1000000) (dsimp := false) (disch := omega) only [zwp_ret, znil_none, nilTest_t, nilOf, zops_nil, zops_none, zstep_eq, zput_some, zthen_some, vop, veval, strip1, strip0, strip, upd_at, vrecv, vret_r, vres, vresL, vseal, Option.map_some, Option.bind_some, Option.some.injEq, eq_self, ↓reduceIte, exists_eq_left', Vle_self]
theorem touch1_ok (scripts : List (List UInt8)) (y : TOut) : VPure Try.prog 31 [ov y, .rp [.sl 1 (scripts.map sb) .no]] (.b (outHit scripts y)) := by
  obtain ⟨n, l⟩ := y
  have I := tbany_ok 33 [.rp [.i .u64 (n : Int), .sl 1 (bv l) .no]] (fun s => decide (s = l)) scripts (fun s _ => touch11_ok s l n) rfl rfl
  refine pure_of_body (tyOf_ok _) mixed Try.func31 rfl rfl (fun _ => 0) (by kernel_rfl) (zin ?_)
  dsimp only [Try.f31]

  simp (maxSteps := 1000000) (dsimp := false) (disch := omega) only [zwp_region_f, zwp_seq, znil_none, nilTest_t, nilOf, zops_nil, zops_none, zstep_eq, zput_some, zthen_some, zfn_fn, vop, veval, toVs, toV1, vbox, vload, vpart, strip1, stripL, strip0, upd_at, initFr_at, St.new, hintOf, V.cells, V.isVal, TD.agg, varg1, vargs1, varg, vargs, List.map_cons, List.map_nil, List.getElem?_cons_zero, List.getElem?_cons_succ, List.drop_zero, List.append_nil, List.isEmpty_nil, List.isEmpty_toArray, Option.map_some, Option.getD_some, Bool.false_eq_true, Bool.or_true, Bool.or_false, eq_self, ↓reduceIte, Nat.reduceEqDiff, Nat.zero_add, ty45, ov]
  refine zcall_pure (I) (by first | exact fun h => Bool.noConfusion h | exact fun _ => rfl | exact fun _ => free_bv _ _ _) ?_
  simp (maxSteps := 1000000) (dsimp := false) (disch := omega) only [zwp_ret, znil_none, nilTest_t, nilOf, zops_nil, zops_none, zstep_eq, zput_some, zthen_some, vop, veval, strip1, strip0, strip, upd_at, vrecv, vret_r, vres, vresL, vseal, Option.map_some, Option.bind_some, Option.some.injEq, eq_self, ↓reduceIte, exists_eq_left']
  exact .refl _
theorem hindex_ok (spent : List (List UInt8)) (x : List UInt8) (hx : x.length = 32) (hl : ∀ h ∈ spent, h.length = 32) (hl2 : spent.length ≤ 100000) :
    VPure Try.prog 48 [.sl 32 (spent.map hv) .no, hv x] (.i .i64 (match spent.findIdx? (fun h => decide (x = h)) with | some i => (i : Int) | none => -1)) := by
  have lx : (bv x).length = 32 := by simpa using hx
  have ox : (bv x).all V.one = true := by simp [bv, V.one]
  have tx : (bv x).take 32 = bv x := List.take_of_length_le (by omega)
  refine pure_of_body (tyOf_ok _) mixed Try.func48 rfl rfl (fun _ => 0) (by kernel_rfl) (zin ?_)
  dsimp only [Try.f48]

  simp (maxSteps := 1000000) (dsimp := false) (disch := omega) only [zwp_region_f, zwp_seq, zwp_block, znil_none, nilTest_t, nilOf, zops_nil, zops_none, zstep_eq, zput_some, zthen_some, vop, veval, toVs, toV1, vbox, vbuiltin, vlen, upd_at, initFr_at, St.new, V.cells, V.isVal, List.map_cons, List.map_nil, List.getElem?_cons_zero, List.getElem?_cons_succ, List.length_map, Option.map_some, Option.getD_some, eq_self, reduceCtorEq, ↓reduceIte, Nat.zero_add, ty46, List.length_map, hv]
  refine zloop spent.length (fun k fr σ => fr 0 = .sl 32 (spent.map hv) .no ∧ fr 3 = .ptr 0 0 ∧ fr 7 = .i .i64 (spent.length : Int) ∧ fr 8 = .i .i64 (k : Int) ∧ σ.h 0 = some (.cells (bv x)) ∧ ∀ j (h : j < spent.length), j < k → decide (x = spent[j]) = false) ⟨rfl, rfl, rfl, rfl, rfl, fun j h hj => by omega⟩ ?_
  rintro k fr ⟨h, n⟩ hk ⟨f0, f3, f7, f8, g0, hnot⟩
  simp only at g0
  by_cases hlt : k < spent.length
  · have hlt' : (k : Int) < (spent.length : Int) := by omega
    obtain ⟨y, hy⟩ : ∃ y, y = spent[k] := ⟨_, rfl⟩
    have ly : (bv y).length = 32 := by rw [hy]; simpa using hl _ (List.getElem_mem hlt)
    have ty : (bv y).take 32 = bv y := List.take_of_length_le (by omega)
    have hg : (spent.map hv)[k]? = some (.agg (bv y)) := by
      rw [List.getElem?_map, List.getElem?_eq_getElem hlt, ← hy]; rfl
    by_cases hxy : x = y
    · have hb : (x == y) = true := by simpa using hxy
      have hf : spent.findIdx? (fun h => decide (x = h)) = some k := by
        rw [List.findIdx?_eq_some_iff_getElem]
        exact ⟨hlt, by rw [← hy]; simpa using hxy, fun j hj => by simp [hnot j (by omega) hj]⟩
      rw [hf]

      simp (maxSteps := 1000000) (dsimp := false) (disch := omega) only [zlate_0, zwp_skip, zwp_region_f, zwp_region_t, zwp_seq, zwp_cond, zwp_block, zwp_ret, znil_none, nilTest_f, nilTest_t, nilOf, zops_nil, zops_none, zstep_eq, zput_some, zcond_t, zthen_some, int_lt0, vop, veval, vload, vpart, vbinX, vagg, vbin, vint, BinOp.sh, viaddr, strip1, strip0, strip, upd_at, V.cells, TD.agg, vret_r, vres, vresL, vseal, List.drop_zero, Option.map_some, Option.bind_some, Option.some.injEq, and_self, Bool.false_eq_true, decide_true, eq_self, reduceCtorEq, ↓reduceIte, Nat.reduceEqDiff, Nat.zero_add, Nat.le_refl, Int.toNat_natCast, exists_eq_left', Vle_self, ty3, ty5, ty46, ty52, unbv_bv, lx, tx, f0, f3, f7, f8, g0, hlt', hg, ly, ty, hb]
    · have hb : (x == y) = false := by simpa using hxy

      simp (maxSteps := 1000000) (dsimp := false) (disch := omega) only [zlate_0, zwp_skip, zwp_region_f, zwp_region_t, zwp_seq, zwp_cond, zwp_block, znil_none, nilTest_f, nilTest_t, nilOf, zops_nil, zops_none, zstep_eq, zput_some, zcond_t, zcond_f, zthen_some, int_lt0, vop, veval, toVs, toV1, vload, vpart, vbinX, vagg, vbin, vint, BinOp.sh, viaddr, upd_at, V.cells, TD.agg, List.drop_zero, Option.map_some, V.i.injEq, true_and, and_self, Bool.false_eq_true, decide_true, eq_self, reduceCtorEq, ↓reduceIte, Nat.reduceEqDiff, Nat.zero_add, Nat.le_refl, Int.toNat_natCast, ty3, ty5, ty46, ty52, unbv_bv, wrap_i64, lx, tx, f0, f3, f7, f8, g0, hlt', hg, ly, ty, hb]
      refine ⟨hlt, by omega, fun j h hj => ?_⟩
      by_cases he : j = k
      · subst he; rw [← hy]; simpa using hxy
      · exact hnot j h (by omega)
  · have hlt' : ¬ (k : Int) < (spent.length : Int) := by omega

    simp (maxSteps := 1000000) (dsimp := false) (disch := omega) only [zwp_region_f, zwp_seq, zwp_cond, zwp_exit, zwp_ret, znil_none, nilTest_t, nilOf, zops_nil, zops_none, zstep_eq, zput_some, zcond_f, zthen_some, vop, veval, toVs, toV1, vbinX, vbin, vint, BinOp.sh, strip1, strip0, strip, upd_at, vret_r, vres, vresL, vseal, Option.map_some, Option.bind_some, Option.some.injEq, Bool.false_eq_true, decide_false, eq_self, ↓reduceIte, Int.reduceNeg, exists_eq_left', ty3, f7, f8, hlt']
    have : spent.findIdx? (fun h => decide (x = h)) = none := by
      rw [List.findIdx?_eq_none_iff]
      intro z hz
      obtain ⟨j, hj, rfl⟩ := List.getElem_of_mem hz
      exact hnot j hj (by omega)
    rw [this]
    exact .refl _
theorem hcontains_ok (spent : List (List UInt8)) (x : List UInt8) (hx : x.length = 32) (hl : ∀ h ∈ spent, h.length = 32) (hl2 : spent.length ≤ 100000) :
    VPure Try.prog 36 [.sl 32 (spent.map hv) .no, hv x] (.b (spent.any fun h => decide (x = h))) := by
  have I := hindex_ok spent x hx hl hl2
  have lx : (bv x).length = 32 := by simpa using hx
  have ox : (bv x).all V.one = true := by simp [bv, V.one]
  have tx : (bv x).take 32 = bv x := List.take_of_length_le (by omega)
  rcases find_any (fun h => decide (x = h)) spent with ⟨h1, h2⟩ | ⟨⟨i, h1⟩, h2⟩
  · rw [h1] at I
    rw [h2]
    refine pure_of_body (tyOf_ok _) mixed Try.func36 rfl rfl (fun _ => 0) (by kernel_rfl) (zin ?_)
    dsimp only [Try.f36]

    simp (maxSteps := 1000000) (dsimp := false) (disch := omega) only [zwp_region_f, zwp_seq, znil_none, nilTest_t, nilOf, zops_nil, zops_none, zstep_eq, zput_some, zthen_some, zfn_fn, vop, veval, toVs, toV1, vbox, vload, vpart, strip1, strip0, upd_at, initFr_at, St.new, hintOf, V.cells, V.isVal, TD.agg, varg1, varg, vargs, List.map_cons, List.map_nil, List.getElem?_cons_zero, List.getElem?_cons_succ, List.drop_zero, List.append_nil, Option.map_some, Option.getD_some, Bool.or_false, eq_self, reduceCtorEq, ↓reduceIte, Nat.reduceEqDiff, Nat.zero_add, Nat.le_refl, ty52, lx, tx, hv, stripL_bv]
    refine zcall_pure (I) (by first | exact fun h => Bool.noConfusion h | exact fun _ => rfl | exact fun _ => free_bv _ _ _) ?_
    simp (maxSteps := 1000000) (dsimp := false) (disch := omega) only [zwp_ret, znil_none, nilTest_t, nilOf, zops_nil, zops_none, zstep_eq, zput_some, zthen_some, vop, veval, toVs, toV1, vbinX, vbin, vint, BinOp.sh, strip1, strip0, strip, upd_at, vrecv, vret_r, vres, vresL, vseal, Option.map_some, Option.bind_some, Option.some.injEq, Bool.false_eq_true, decide_false, eq_self, ↓reduceIte, Int.reduceLE, Int.reduceNeg, exists_eq_left', Vle_self, ty3, ge_iff_le]
  · rw [h1] at I
    rw [h2]
    refine pure_of_body (tyOf_ok _) mixed Try.func36 rfl rfl (fun _ => 0) (by kernel_rfl) (zin ?_)
    dsimp only [Try.f36]

    simp (maxSteps := 1000000) (dsimp := false) (disch := omega) only [zwp_region_f, zwp_seq, znil_none, nilTest_t, nilOf, zops_nil, zops_none, zstep_eq, zput_some, zthen_some, zfn_fn, vop, veval, toVs, toV1, vbox, vload, vpart, strip1, strip0, upd_at, initFr_at, St.new, hintOf, V.cells, V.isVal, TD.agg, varg1, varg, vargs, List.map_cons, List.map_nil, List.getElem?_cons_zero, List.getElem?_cons_succ, List.drop_zero, List.append_nil, Option.map_some, Option.getD_some, Bool.or_false, eq_self, reduceCtorEq, ↓reduceIte, Nat.reduceEqDiff, Nat.zero_add, Nat.le_refl, ty52, lx, tx, hv, stripL_bv]
    refine zcall_pure (I) (by first | exact fun h => Bool.noConfusion h | exact fun _ => rfl | exact fun _ => free_bv _ _ _) ?_
    simp (maxSteps := 1000000) (dsimp := false) (disch := omega) only [zwp_ret, znil_none, nilTest_t, nilOf, zops_nil, zops_none, zstep_eq, zput_some, zthen_some, int_le0, vop, veval, toVs, toV1, vbinX, vbin, vint, BinOp.sh, strip1, strip0, strip, upd_at, vrecv, vret_r, vres, vresL, vseal, Option.map_some, Option.bind_some, Option.some.injEq, Bool.false_eq_true, decide_true, eq_self, ↓reduceIte, exists_eq_left', Vle_self, ty3, ge_iff_le]
theorem touch2_ok (spent : List (List UInt8)) (x : TIn) (hx : x.1.length = 32) (hl : ∀ h ∈ spent, h.length = 32) (hl2 : spent.length ≤ 100000) :
    VPure Try.prog 35 [iv x, .rp [.sl 32 (spent.map hv) .no]] (.b (inHit spent x)) := by
  obtain ⟨hsh, i, l, q⟩ := x
  have I := hcontains_ok spent hsh hx hl hl2
  have lb : (bv hsh).length = 32 := by simpa using hx
  have s1 : ∀ x y z : V, (bv hsh ++ [x, y, z]).length = 35 := fun x y z => by rw [List.length_append, lb]; rfl
  have s2 : ∀ x y z : V, List.take 32 (bv hsh ++ [x, y, z]) = bv hsh := fun x y z => List.take_left' lb
  have s7 : ∀ x y z : V, List.drop 35 (bv hsh ++ [x, y, z]) = [] := fun x y z => by rw [List.drop_append, lb, List.drop_eq_nil_of_le (by omega)]; rfl
  have s8 : ∀ x y z : V, List.take 35 (bv hsh ++ [x, y, z]) = bv hsh ++ [x, y, z] := fun x y z => List.take_of_length_le (by rw [s1]; exact Nat.le_refl _)
  refine pure_of_body (tyOf_ok _) mixed Try.func35 rfl rfl (fun _ => 0) (by kernel_rfl) (zin ?_)
  dsimp only [Try.f35]

  simp (maxSteps := 1000000) (dsimp := false) (disch := omega) only [zwp_region_f, zwp_seq, znil_none, nilTest_t, nilOf, zops_nil, zops_none, zstep_eq, zput_some, zthen_some, zfn_fn, vop, veval, toVs, toV1, vbox, vload, vpart, vfaddr, strip1, strip0, upd_at, initFr_at, St.new, hintOf, V.cells, V.isVal, TD.agg, varg1, varg, vargs, List.map_cons, List.map_nil, List.getElem?_cons_zero, List.getElem?_cons_succ, List.drop_zero, List.append_nil, Option.map_some, Option.getD_some, Bool.false_eq_true, Bool.or_false, eq_self, reduceCtorEq, ↓reduceIte, Nat.reduceLeDiff, Nat.reduceEqDiff, Nat.zero_add, Nat.add_zero, ty46, ty52, ty59, iv, icell, s1, s2, stripL_bv]
  refine zcall_pure (I) (by first | exact fun h => Bool.noConfusion h | exact fun _ => rfl | exact fun _ => free_bv _ _ _) ?_
  simp (maxSteps := 1000000) (dsimp := false) (disch := omega) only [zwp_ret, znil_none, nilTest_t, nilOf, zops_nil, zops_none, zstep_eq, zput_some, zthen_some, vop, veval, strip1, strip0, strip, upd_at, vrecv, vret_r, vres, vresL, vseal, Option.map_some, Option.bind_some, Option.some.injEq, eq_self, ↓reduceIte, exists_eq_left']
  exact .refl _
theorem touches_ok (t : TxT) (ht : TxOk t) (scripts spent : List (List UInt8)) (hl : ∀ h ∈ spent, h.length = 32) (hl2 : spent.length ≤ 100000) :
    VPure Try.prog 15 [tv t, .sl 1 (scripts.map sb) .no, .sl 32 (spent.map hv) .no] (.b (touchB t scripts spent)) := by
  have I1 := toany_ok 31 [.rp [.sl 1 (scripts.map sb) .no]] (outHit scripts) t.2.2.1 (fun y _ => touch1_ok scripts y) (fun y _ => ovok_of y) rfl rfl
  have I2 := tiany_ok 35 [.rp [.sl 32 (spent.map hv) .no]] (inHit spent) t.2.1 (fun x hx => touch2_ok spent x (ht.2.1 x hx).1 hl hl2) (fun x hx => ivok_of (ht.2.1 x hx)) rfl rfl
  have hT : touchB t scripts spent = (t.2.2.1.any (outHit scripts) || t.2.1.any (inHit spent)) := rfl
  rw [hT]
  obtain ⟨ver, ins, outs, lock⟩ := t
  simp only at I1 I2 ⊢
  generalize outs.any (outHit scripts) = q1 at *
  generalize ins.any (inHit spent) = q2 at *
  refine pure_of_body (tyOf_ok _) mixed Try.func15 rfl rfl (fun _ => 0) (by kernel_rfl) (zin ?_)
  dsimp only [Try.f15]

  simp (maxSteps := 1000000) (dsimp := false) (disch := omega) only [zwp_region_f, zwp_seq, znil_none, nilTest_t, nilOf, zops_nil, zops_none, zstep_eq, zput_some, zthen_some, zfn_fn, vop, veval, toVs, toV1, vbox, vload, vpart, vfaddr, strip1, stripL, strip0, upd_at, initFr_at, St.new, hintOf, V.cells, V.isVal, TD.agg, varg1, vargs1, varg, vargs, List.map_cons, List.map_nil, List.getElem?_cons_zero, List.getElem?_cons_succ, List.drop_zero, List.append_nil, List.isEmpty_nil, List.isEmpty_toArray, Option.map_some, Option.getD_some, Bool.false_eq_true, Bool.or_true, Bool.or_false, eq_self, reduceCtorEq, ↓reduceIte, Nat.reduceEqDiff, Nat.reduceAdd, Nat.zero_add, ty34, ty36, tv]
  refine zcall_pure (I1) (by first | exact fun h => Bool.noConfusion h | exact fun _ => rfl | exact fun _ => free_bv _ _ _) ?_
  cases q1 with
  | true => simp (maxSteps := 1000000) (dsimp := false) (disch := omega) only [zwp_ret, znil_none, nilTest_t, nilOf, zops_nil, zops_none, zops_some, zstep_eq, zput_some, zwant_f, zthen_some, wantedV, vop, veval, toVs, toV1, strip1, strip0, strip, upd_at, vrecv, vret_r, vres, vresL, vseal, List.getElem?_cons_zero, List.getElem?_cons_succ, List.getElem?_toArray, Option.map_some, Option.bind_some, Option.some.injEq, Bool.not_true, Bool.true_or, eq_self, ↓reduceIte, Nat.reduceEqDiff, beq_false, exists_eq_left', Vle_self]
  | false =>
    simp (maxSteps := 1000000) (dsimp := false) (disch := omega) only [znil_none, nilTest_t, nilOf, zops_none, zops_some, zstep_eq, zput_some, zwant_t, zthen_some, zfn_fn, wantedV, vop, veval, vload, vpart, vfaddr, strip1, stripL, strip0, upd_at, vrecv, hintOf, TD.agg, varg1, vargs1, varg, vargs, List.map_cons, List.map_nil, List.getElem?_cons_zero, List.getElem?_cons_succ, List.drop_zero, List.append_nil, List.getElem?_toArray, Option.map_some, Bool.false_eq_true, Bool.or_true, Bool.or_false, beq_self_eq_true, eq_self, reduceCtorEq, ↓reduceIte, Nat.reduceEqDiff, Nat.zero_add, ty33, ty36]
    refine zcall_pure (I2) (by first | exact fun h => Bool.noConfusion h | exact fun _ => rfl | exact fun _ => free_bv _ _ _) ?_
    cases q2 with
    | true => simp (maxSteps := 1000000) (dsimp := false) (disch := omega) only [zwp_ret, znil_none, nilTest_t, nilOf, zops_nil, zops_none, zstep_eq, zput_some, zthen_some, vop, veval, strip1, strip0, strip, upd_at, vrecv, vret_r, vres, vresL, vseal, Option.map_some, Option.bind_some, Option.some.injEq, Bool.or_true, eq_self, ↓reduceIte, Nat.reduceEqDiff, exists_eq_left', Vle_self]
    | false => simp (maxSteps := 1000000) (dsimp := false) (disch := omega) only [zwp_ret, znil_none, nilTest_t, nilOf, zops_nil, zops_none, zstep_eq, zput_some, zthen_some, vop, veval, strip1, strip0, strip, upd_at, vrecv, vret_r, vres, vresL, vseal, Option.map_some, Option.bind_some, Option.some.injEq, Bool.or_false, eq_self, ↓reduceIte, Nat.reduceEqDiff, exists_eq_left', Vle_self]
end Go.Proofs.Ytkcapmodgkficaa
