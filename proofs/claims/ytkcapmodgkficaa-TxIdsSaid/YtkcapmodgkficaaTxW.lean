/- Transactions: laying bytes. -/
import Derived.Test.YtkcapmodgkficaaCmp
namespace Go.Proofs.Ytkcapmodgkficaa
open Go.Vx Go.Fl
set_option maxRecDepth 100000
set_option maxHeartbeats 2000000
set_option linter.unusedSimpArgs false
set_option linter.unusedVariables false

/-- A writer that has laid some bytes. -/
def WrB (σ : St) (o : Nat) (L : List UInt8) : Prop := o < σ.n ∧ ((L = [] ∧ σ.h o = some (.cells [.sl 0 [] .clip])) ∨ ∃ t, t ≠ o ∧ t < σ.n ∧ σ.h o = some (.cells [.sl 1 (bv L) (.tok t)]) ∧ σ.h t = some (.tok 5))
/-- The cells of the others stay. -/
def KeepC (o : Nat) (σ σ' : St) : Prop := σ.n ≤ σ'.n ∧ ∀ p cs, p < σ.n → p ≠ o → σ.h p = some (.cells cs) → σ'.h p = some (.cells cs)
theorem KeepC.refl (o : Nat) (σ : St) : KeepC o σ σ := ⟨Nat.le_refl _, fun _ _ _ _ h => h⟩
theorem KeepC.trans {o : Nat} {a b c : St} (h : KeepC o a b) (k : KeepC o b c) : KeepC o a c := ⟨Nat.le_trans h.1 k.1, fun p cs h1 h2 h3 => k.2 p cs (Nat.lt_of_lt_of_le h1 h.1) h2 (h.2 p cs h1 h2 h3)⟩

theorem WrB.mk' {g : Nat → Option Ob} {n o q : Nat} {T : List UInt8} (h1 : o < n) (h2 : q ≠ o) (h3 : q < n) (h4 : g q = some (.tok 5)) : WrB ⟨upd g o (some (.cells [.sl 1 (bv T) (.tok q)])), n⟩ o T :=
  ⟨h1, .inr ⟨q, h2, h3, upd_same _ _ _, by simp only; rw [upd_ne _ _ h2]; exact h4⟩⟩
theorem keep_app {σ : St} {h : Nat → Option Ob} {m o t e n : Nat} {x y : Option Ob} (hK1 : σ.n ≤ m) (hK2 : ∀ p cs, p < σ.n → p ≠ o → σ.h p = some (.cells cs) → h p = some (.cells cs)) (ht : h t = some (.tok e) ∨ t = m) (hn : m ≤ n) : KeepC o σ ⟨upd (upd (upd h t none) m y) o x, n⟩ := by
  refine ⟨Nat.le_trans hK1 hn, fun p cs h1 h2 h3 => ?_⟩
  simp only
  have hp := hK2 p cs h1 h2 h3
  rw [upd_ne _ _ h2, upd_ne _ _ (by omega), upd_ne]
  · exact hp
  · intro he
    subst he
    rcases ht with ht | ht
    · rw [ht] at hp; cases hp
    · omega

theorem number_ok (σ : St) (o : Nat) (L : List UInt8) (n k : Nat) (hn : n < 18446744073709551616) (hk : k ≤ 8) (hL : L.length ≤ 50000000) (hw : WrB σ o L) :
    VRef Try.prog 18 [.ptr o 0, .i .u64 (n : Int), .i .i64 (k : Int)] σ (fun v σ' => v = .tup [] ∧ WrB σ' o (L ++ lowB k n) ∧ KeepC o σ σ') := by
  refine ref_of_body (tyOf_ok _) mixed Try.func18 rfl rfl (fun _ => 0) (by kernel_rfl) (fun hwf => zin ?_)
  dsimp only [Try.f18]

  simp (maxSteps := 1000000) (dsimp := false) (disch := omega) only [zwp_region_f, zwp_seq, zwp_block, znil_none, nilTest_t, nilOf, zops_nil, zops_none, zstep_eq, zput_some, zthen_some, vop, veval, toVs, toV1, initFr_at, List.getElem?_cons_zero, List.getElem?_cons_succ, Option.getD_some]
  refine zloop k (fun j fr σ' => fr 0 = .ptr o 0 ∧ fr 1 = .i .u64 ((n / 256 ^ j : Nat) : Int) ∧ fr 6 = .i .i64 (k : Int) ∧ fr 7 = .i .i64 (j : Int) ∧ j ≤ k ∧ WrB σ' o (L ++ lowB j n) ∧ KeepC o σ σ') ⟨rfl, by simp [upd_at, initFr_at], rfl, rfl, Nat.zero_le _, by simpa [lowB] using hw, .refl _ _⟩ ?_
  rintro j fr ⟨h, m⟩ hj ⟨f0, f1, f6, f7, hj', hW, hK⟩
  by_cases hlt : j < k
  · have hlt' : (j : Int) < (k : Int) := by omega
    have hn2 : lowB (j + 1) n = lowB j n ++ [UInt8.ofNat (n / 256 ^ j)] := lowB_succ j n
    have hn3 : n / 256 ^ j / 256 = n / 256 ^ (j + 1) := by rw [Nat.div_div_eq_div_mul, Nat.pow_succ]
    have hl2 : (L ++ lowB j n).length = L.length + j := by rw [List.length_append, lowB_length]
    rw [hn2, ← hn3, ← List.append_assoc]
    generalize L ++ lowB j n = T at *
    generalize n / 256 ^ j = w at *
    have b1 : (T.length + 1) * 32 ≤ 140737488355328 := by omega
    obtain ⟨hm, hW⟩ := hW
    simp only at hm hW
    obtain ⟨hK1, hK2⟩ := hK
    simp only at hK1 hK2
    rcases hW with ⟨rfl, h0⟩ | ⟨t, ht, htm, h0, h1⟩
    · skip
      simp (maxSteps := 1000000) (dsimp := false) (disch := omega) only [zwp_skip, zwp_region_f, zwp_seq, zwp_cond, zwp_block, znil_none, nilTest_t, nilOf, zops_nil, zops_none, zstep_eq, zput_some, zput_none, zcond_t, zthen_some, vop, veval, vprt, toVs, toV1, vstore, vload, vpart, vblit, vlits, zeroElem, vbuiltin, vbinX, vbin, vint, vshift, BinOp.sh, vconv, vfaddr, vapp, vsrc, vgrow, strip1, strip0, upd_at, St.put, St.tok, V.cells, V.isVal, TD.agg, List.map_cons, List.map_nil, List.getElem?_cons_zero, List.take_zero, List.drop_succ_cons, List.drop_nil, List.nil_append, List.append_nil, List.length_cons, List.length_nil, List.replicate_one, List.set_cons_zero, List.isEmpty_cons, List.isEmpty_nil, Option.map_some, Option.any_some, V.i.injEq, true_and, or_true, or_false, and_self, Bool.false_eq_true, Bool.not_true, Bool.and_true, Bool.and_false, decide_true, eq_self, reduceCtorEq, ↓reduceIte, Nat.reduceLT, Nat.reduceLeDiff, Nat.reduceEqDiff, Nat.reduceBEq, Nat.zero_add, Nat.add_zero, Nat.le_refl, Nat.mul_one, Int.reduceLT, Int.reduceToNat, List.cons_ne_nil, ty3, ty5, ty27, ty48, ty63, wrap_i64, if_neg, low_u8, shr8, f0, f1, f6, f7, h0, hlt']
      refine ⟨hlt, by omega, hlt, WrB.mk' (T := [UInt8.ofNat w]) (by omega) (by omega) (by omega) (upd_same _ _ _), keep_app (e := 0) hK1 hK2 (.inr rfl) (by omega)⟩
    · skip
      simp (maxSteps := 1000000) (dsimp := false) (disch := omega) only [zwp_skip, zwp_region_f, zwp_seq, zwp_cond, zwp_block, znil_none, nilTest_t, nilOf, zops_nil, zops_none, zstep_eq, zput_some, zput_none, zcond_t, zthen_some, vop, veval, vprt, toVs, toV1, vstore, vload, vpart, vblit, vlits, zeroElem, vbuiltin, vbinX, vbin, vint, vshift, BinOp.sh, vconv, vfaddr, vapp, vsrc, vgrow, strip1, strip0, upd_at, St.put, St.tok, V.cells, V.isVal, TD.agg, List.map_cons, List.map_nil, List.getElem?_cons_zero, List.take_zero, List.drop_succ_cons, List.drop_nil, List.nil_append, List.append_nil, List.length_cons, List.length_nil, List.replicate_one, List.set_cons_zero, List.isEmpty_cons, Option.map_some, Option.any_some, V.i.injEq, true_and, true_or, or_false, and_self, Bool.false_eq_true, Bool.false_and, Bool.and_false, decide_true, decide_false, eq_self, reduceCtorEq, ↓reduceIte, Nat.reduceLT, Nat.reduceLeDiff, Nat.reduceEqDiff, Nat.reduceBEq, Nat.zero_add, Nat.add_zero, Nat.le_refl, Nat.mul_one, Int.reduceLT, Int.reduceToNat, List.cons_ne_nil, ty3, ty5, ty27, ty48, ty63, bv_length, wrap_i64, if_pos, if_neg, low_u8, shr8, f0, f1, f6, f7, h0, h1, hlt']
      have e : bv T ++ [V.i .u8 (((UInt8.ofNat w).toNat : Nat) : Int)] = bv (T ++ [UInt8.ofNat w]) := by rw [← bv_append]; rfl
      rw [e]
      refine ⟨hlt, by omega, hlt, WrB.mk' (by omega) (by omega) (by omega) (upd_same _ _ _), keep_app hK1 hK2 (.inl h1) (by omega)⟩
  · have hlt' : ¬ (j : Int) < (k : Int) := by omega
    have hje : j = k := by omega
    rw [hje] at hW

    simp (maxSteps := 1000000) (dsimp := false) (disch := omega) only [zwp_region_f, zwp_seq, zwp_cond, zwp_exit, znil_none, nilTest_t, nilOf, zops_nil, zops_none, zstep_eq, zput_some, zcond_f, zthen_some, vop, veval, vbinX, vbin, vint, BinOp.sh, upd_at, rret_n, vres, vresL, Option.map_some, Option.some.injEq, true_and, Bool.false_eq_true, decide_false, eq_self, ↓reduceIte, exists_eq_left', ty3, f6, f7, hlt']
    exact ⟨hW, hK⟩

theorem wbytes_ok (σ : St) (o : Nat) (L b : List UInt8) (hL : L.length ≤ 50000000) (hb : b.length ≤ 10000000) (hw : WrB σ o L) :
    VRef Try.prog 20 [.ptr o 0, .sl 1 (bv b) .no] σ (fun v σ' => v = .tup [] ∧ WrB σ' o (L ++ putN b.length ++ b) ∧ KeepC o σ σ') := by
  obtain ⟨ho, hW⟩ := hw
  have hp : (putN b.length).length ≤ 9 := by
    rw [putN_length]
    have := sizeN_cases b.length
    omega
  have hl2 : (L ++ putN b.length).length ≤ 50000009 := by rw [List.length_append]; omega
  obtain ⟨z, g, hz, h0⟩ : ∃ z g, (z = 1 ∨ L = []) ∧ σ.h o = some (.cells [.sl z (bv L) g]) := by
    rcases hW with ⟨rfl, h0⟩ | ⟨t, ht, htm, h0, h1⟩
    · exact ⟨0, _, .inr rfl, h0⟩
    · exact ⟨1, _, .inl rfl, h0⟩
  have P := cput_ok L z hz (by omega) b.length (by omega)
  generalize hT : L ++ putN b.length = T at *
  have b1 : (T.length + b.length) * 32 ≤ 140737488355328 := by omega
  refine ref_of_body (tyOf_ok _) mixed Try.func20 rfl rfl (fun d => if d = 12 then 1 else 0) (by kernel_rfl) (fun hwf => zin ?_)
  dsimp only [Try.f20]

  simp (maxSteps := 1000000) (dsimp := false) (disch := omega) only [zwp_region_f, znil_none, nilTest_t, nilOf, zops_none, zstep_eq, zput_some, zthen_some, zfn_fn, vop, veval, vload, vpart, vbuiltin, vlen, vconv, vfaddr, strip1, strip0, upd_at, initFr_at, hintOf, TD.agg, varg1, varg, vargs, List.map_cons, List.map_nil, List.getElem?_cons_zero, List.getElem?_cons_succ, List.append_nil, Option.map_some, Option.getD_some, Bool.false_eq_true, Bool.or_false, eq_self, reduceCtorEq, ↓reduceIte, Nat.reduceEqDiff, Nat.add_zero, ty3, ty27, ty48, ty63, bv_length, wrap_u64, h0]
  refine zcall_pure (P) (by first | exact fun h => Bool.noConfusion h | exact fun _ => rfl | exact fun _ => free_bv _ _ _) ?_
  simp (maxSteps := 1000000) (dsimp := false) (disch := omega) only [znil_none, nilTest_t, nilOf, zops_nil, zops_none, zstep_eq, zput_some, zput_none, zthen_some, vop, veval, vstore, vbuiltin, vfaddr, vapp, vsrc, vgrow, upd_at, initFr_at, St.put, St.tok, vrecv, V.cells, V.isVal, rret_n, vres, vresL, List.map_cons, List.map_nil, List.getElem?_cons_zero, List.getElem?_cons_succ, List.take_zero, List.drop_succ_cons, List.drop_nil, List.nil_append, List.append_nil, List.length_cons, List.length_nil, Option.map_some, Option.getD_some, Option.any_some, Option.some.injEq, true_and, true_or, and_self, Bool.false_eq_true, Bool.and_false, decide_false, eq_self, reduceCtorEq, ↓reduceIte, Nat.reduceLT, Nat.reduceEqDiff, Nat.reduceBEq, Nat.zero_add, Nat.add_zero, Nat.le_refl, Nat.mul_one, exists_eq_left', ty5, ty27, ty63, bv_length, if_pos, if_neg, h0]
  rw [bv_append]
  refine ⟨WrB.mk' (by omega) (by omega) (by omega) (upd_same _ _ _), keep_app (e := 5) (Nat.le_succ _) (fun p cs h1 h2 h3 => ?_) (.inl (upd_same _ _ _)) (by omega)⟩
  rw [upd_ne _ _ (by omega)]; exact h3

/-! ### Transactions, plainly -/
abbrev TIn := List UInt8 × Nat × List UInt8 × Nat
abbrev TOut := Nat × List UInt8
abbrev TxT := Nat × List TIn × List TOut × Nat
def icell (x : TIn) : List V := bv x.1 ++ [.i .u32 (x.2.1 : Int), .sl 1 (bv x.2.2.1) .no, .i .u32 (x.2.2.2 : Int)]
def iv (x : TIn) : V := .agg (icell x)
def ov (y : TOut) : V := .agg [.i .u64 (y.1 : Int), .sl 1 (bv y.2) .no]
def tv (t : TxT) : V := .agg [.i .u32 (t.1 : Int), .sl 35 (t.2.1.map iv) .no, .sl 2 (t.2.2.1.map ov) .no, .i .u32 (t.2.2.2 : Int)]
/-- What a transaction's parts are. -/
def InOk (x : TIn) : Prop := x.1.length = 32 ∧ x.2.1 ≤ 4294967295 ∧ x.2.2.2 ≤ 4294967295
def OutOk (y : TOut) : Prop := y.1 ≤ 18446744073709551615
def TxOk (t : TxT) : Prop := t.1 ≤ 4294967295 ∧ (∀ x ∈ t.2.1, InOk x) ∧ (∀ y ∈ t.2.2.1, OutOk y) ∧ t.2.2.2 ≤ 4294967295
theorem icell_length {x : TIn} (h : x.1.length = 32) : (icell x).length = 35 := by simp [icell, h]
theorem icell_32 {x : TIn} (h : x.1.length = 32) : (icell x)[32]? = some (.i .u32 (x.2.1 : Int)) := by
  unfold icell; rw [List.getElem?_append_right (by simp [h])]; simp [h]
theorem icell_33 {x : TIn} (h : x.1.length = 32) : (icell x)[33]? = some (.sl 1 (bv x.2.2.1) .no) := by
  unfold icell; rw [List.getElem?_append_right (by simp [h])]; simp [h]
theorem icell_34 {x : TIn} (h : x.1.length = 32) : (icell x)[34]? = some (.i .u32 (x.2.2.2 : Int)) := by
  unfold icell; rw [List.getElem?_append_right (by simp [h])]; simp [h]
theorem icell_take {x : TIn} (h : x.1.length = 32) : (icell x).take 32 = bv x.1 := by
  unfold icell; rw [List.take_left' (by simp [h])]
theorem icell_take35 {x : TIn} (h : x.1.length = 32) : (icell x).take 35 = icell x := List.take_of_length_le (by rw [icell_length h]; exact Nat.le_refl _)
theorem icell_drop35 {x : TIn} (h : x.1.length = 32) : (icell x).drop 35 = [] := List.drop_eq_nil_of_le (by rw [icell_length h]; exact Nat.le_refl _)
theorem icell_one (x : TIn) : (icell x).all V.one = true := by
  unfold icell; rw [List.all_append, bv_all]; rfl
def inB (x : TIn) : List UInt8 := x.1 ++ lowB 4 x.2.1 ++ putN x.2.2.1.length ++ x.2.2.1 ++ lowB 4 x.2.2.2
def outB (y : TOut) : List UInt8 := lowB 8 y.1 ++ putN y.2.length ++ y.2
def txB (t : TxT) : List UInt8 := lowB 4 t.1 ++ putN t.2.1.length ++ t.2.1.flatMap inB ++ putN t.2.2.1.length ++ t.2.2.1.flatMap outB ++ lowB 4 t.2.2.2
def saneT (t : TxT) : Bool := decide (1 ≤ t.2.1.length ∧ t.2.1.length ≤ 1000 ∧ t.2.2.1.length ≤ 1000) && !(t.2.1.any fun x => decide (10000 < x.2.2.1.length)) && !(t.2.2.1.any fun y => decide (10000 < y.2.length))
end Go.Proofs.Ytkcapmodgkficaa
