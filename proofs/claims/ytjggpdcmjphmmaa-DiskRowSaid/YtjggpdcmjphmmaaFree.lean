/- Regions that draw their order, in whatever order: one walk in the order of the text serves all of them, where each operation either has one value in every world of a class, or is a call (or makes memory) of whose value only a lasting fact is told; the last operations, that wait for all others, may write. -/
import Derived.StillTail
import Derived.Deep.QuietTactic
import Derived.BigQuiet
import Derived.Below
namespace Go.Fl
open Go.RowKit
section
variable {P : Program} {ops : Array Oper} {md : Region.Mode} {C : World → Prop} {A : Nat → Option (Value → World → Prop)}

/-- A step of the world that keeps all that was there. -/
def St (w w' : World) : Prop := Below w.heap.size w w'
theorem St.refl (w : World) : St w w := Below.refl _ _
theorem St.trans {a b c : World} (h : St a b) (k : St b c) : St a c := Below.trans h (Below.mono k h.size)

/-- What is known of the worlds by the operations that made something. -/
def Fput (M : Nat → World → Prop) (i : Nat) (F : World → Prop) : Nat → World → Prop := fun k w => M k w ∧ (k = i → F w)
theorem Fput_comm (M : Nat → World → Prop) (i j : Nat) (F G : World → Prop) : Fput (Fput M i F) j G = Fput (Fput M j G) i F := by
  funext k w
  exact propext and_right_comm

def Kn (C : World → Prop) (md : Region.Mode) (o : Oper) (M : Nat → World → Prop) (w : World) : Prop := C w ∧ ∀ e ∈ o.after, Region.binds md e = true → M e.on w

theorem Kn_put {o : Oper} {M : Nat → World → Prop} {i : Nat} {F : World → Prop} {w : World} (hno : ∀ e ∈ o.after, Region.binds md e = true → e.on ≠ i) (h : Kn C md o M w) : Kn C md o (Fput M i F) w :=
  ⟨h.1, fun e he hb => ⟨h.2 e he hb, fun hi => absurd hi (hno e he hb)⟩⟩
theorem Kn_of_put {o : Oper} {M : Nat → World → Prop} {i : Nat} {F : World → Prop} {w : World} (h : Kn C md o (Fput M i F) w) : Kn C md o M w :=
  ⟨h.1, fun e he hb => (h.2 e he hb).1⟩
theorem Kn_all {o : Oper} {M : Nat → World → Prop} {w : World} (hC : C w) (hM : ∀ k, M k w) : Kn C md o M w := ⟨hC, fun e _ _ => hM e.on⟩

def qAt (P : Program) (o : Oper) (a : Act) (w : World) (v : Value) : Prop :=
  (execOp a.eval o).run P w = .ok (.value v) w ∨ ((execOp a.eval o).run P w = .ok .skip w ∧ v = undef)
theorem qAt_eq {o : Oper} {a : Act} {w : World} {v v' : Value} (h : qAt P o a w v) (h' : qAt P o a w v') : v = v' := by
  rcases h with h | ⟨h, rfl⟩ <;> rcases h' with h' | ⟨h', rfl⟩ <;> rw [h] at h' <;> simp_all

def mkUpon (P : Program) (F : Value → World → Prop) (w : World) : Result Next → Prop
  | .ok (.value u) w' => F u w' ∧ St w w'
  | .ok (.enter f args) w' => St w w' ∧ Calls P f args w' (fun e w'' => ∃ v, e = .returned v ∧ F v w'' ∧ St w w'')
  | _ => False
def mkAt (P : Program) (o : Oper) (a : Act) (w : World) (F : Value → World → Prop) : Prop := mkUpon P F w ((execOp a.eval o).run P w)
theorem mkAt_some {o : Oper} {a : Act} {w : World} {F : Value → World → Prop} (h : mkAt P o a w F) : ∃ v w', F v w' ∧ St w w' := by
  unfold mkAt at h
  generalize (execOp a.eval o).run P w = r at h
  cases r with
  | ok n w' =>
    cases n <;> simp only [mkUpon] at h
    case value u => exact ⟨u, w', h⟩
    case enter f args =>
      obtain ⟨_, hc⟩ := h
      obtain ⟨e, w'', _, ⟨v, _, hF, hs⟩, _⟩ := hc []
      exact ⟨v, w'', hF, hs⟩
  | halt x w' => simp only [mkUpon] at h

def gDo (P : Program) (md : Region.Mode) (C : World → Prop) (A : Nat → Option (Value → World → Prop)) (i : Nat) (o : Oper) (K : Act → (Nat → World → Prop) → Prop) (a : Act) (M : Nat → World → Prop) : Prop :=
  match A i with
  | none => ∃ v, (∀ w, Kn C md o M w → qAt P o a w v) ∧ K (a.put o.dst v) M
  | some F => (∀ w, Kn C md o M w → mkAt P o a w F) ∧ ∀ v, (∃ w, C w ∧ (∀ k, M k w) ∧ F v w) → K (a.put o.dst v) (Fput M i (F v))

def gOp (P : Program) (md : Region.Mode) (ops : Array Oper) (C : World → Prop) (A : Nat → Option (Value → World → Prop)) (i : Nat) (K : Act → (Nat → World → Prop) → Prop) (a : Act) (M : Nat → World → Prop) : Prop :=
  match ops[i]? with
  | none => K a M
  | some o => if Region.wanted o (yielded ops a.tmps) then gDo P md C A i o K a M else K (a.put o.dst undef) M

/-- The walk in the order of the text. -/
def wpG (P : Program) (md : Region.Mode) (ops : Array Oper) (C : World → Prop) (A : Nat → Option (Value → World → Prop)) (Q : Act → (Nat → World → Prop) → Prop) : List Oper → Nat → Act → (Nat → World → Prop) → Prop
  | [], _, a, M => Q a M
  | o :: rest, k, a, M => if Region.wanted o (yielded ops a.tmps) then gDo P md C A k o (wpG P md ops C A Q rest (k + 1)) a M else wpG P md ops C A Q rest (k + 1) (a.put o.dst undef) M

/-- Whatever order is picked. -/
def wpAnyG (P : Program) (md : Region.Mode) (ops : Array Oper) (C : World → Prop) (A : Nat → Option (Value → World → Prop)) (n : Nat) (L : Array Bool → Act → (Nat → World → Prop) → Prop) : Nat → Array Bool → Act → (Nat → World → Prop) → Prop
  | 0, listed, a, M => L listed a M
  | f + 1, listed, a, M =>
    Region.ready md ops listed ≠ [] ∧ ∀ i ∈ Region.ready md ops listed, i < n ∧ gOp P md ops C A i (wpAnyG P md ops C A n L f (listed.setIfInBounds i true)) a M

theorem wpOp_of_gOp (hC : ∀ w w', C w → St w w' → C w') (hA : ∀ i F, A i = some F → ∀ v w w', F v w → St w w' → F v w') {i : Nat} {K : Act → (Nat → World → Prop) → Prop} {a : Act} {M : Nat → World → Prop}
    {K' : Act → World → Prop} {Q' : Exit → Act → World → Prop} {w : World} (hw : C w) (hM : ∀ k, M k w) (hS : ∀ k w w', M k w → St w w' → M k w')
    (hK : ∀ a M w, K a M → C w → (∀ k, M k w) → (∀ k w w', M k w → St w w' → M k w') → K' a w) (h : gOp P md ops C A i K a M) : wpOp P ops Q' i K' a w := by
  unfold gOp at h
  unfold wpOp
  split
  · rename_i ho; simp only [ho] at h; exact hK _ _ _ h hw hM hS
  · rename_i o ho
    simp only [ho] at h
    split
    · rename_i hwt
      simp only [hwt, if_true] at h
      refine .inl ?_
      unfold gDo at h
      cases hAi : A i with
      | none =>
        simp only [hAi] at h
        obtain ⟨v, hq, hk⟩ := h
        unfold Oper.wp
        rcases hq w (Kn_all hw hM) with hr | ⟨hr, rfl⟩
        · rw [hr]; exact hK _ _ _ hk hw hM hS
        · rw [hr]; exact hK _ _ _ hk hw hM hS
      | some F =>
        simp only [hAi] at h
        obtain ⟨hm, hk⟩ := h
        have h1 := hm w (Kn_all hw hM)
        have next : ∀ v w', F v w' → St w w' → K' (a.put o.dst v) w' := fun v w' hF hs =>
          hK _ _ _ (hk v ⟨w', hC _ _ hw hs, fun k => hS k _ _ (hM k) hs, hF⟩) (hC _ _ hw hs) (fun k => ⟨hS k _ _ (hM k) hs, fun _ => hF⟩)
            (fun k w1 w2 h1 h2 => ⟨hS k _ _ h1.1 h2, fun hk => hA i F hAi v _ _ (h1.2 hk) h2⟩)
        unfold mkAt at h1
        unfold Oper.wp
        generalize (execOp a.eval o).run P w = r at h1
        cases r with
        | ok n w' =>
          cases n <;> simp only [mkUpon] at h1 <;> simp only [Oper.upon]
          case value u => exact next u w' h1.1 h1.2
          case enter f args => exact h1.2.mono fun e w'' ⟨v, he, hF, hs⟩ => by subst he; exact next v w'' hF hs
        | halt x w' => simp only [mkUpon] at h1
    · rename_i hwt; simp only [hwt] at h; exact hK _ _ _ h hw hM hS

theorem wpAny_of_G (hC : ∀ w w', C w → St w w' → C w') (hA : ∀ i F, A i = some F → ∀ v w w', F v w → St w w' → F v w') {n g : Nat} {L : Array Bool → Act → (Nat → World → Prop) → Prop} {Q' : Exit → Act → World → Prop}
    (hL : ∀ listed a M w, L listed a M → C w → (∀ k, M k w) → wpAny P md ops Q' g listed a w) :
    ∀ (f : Nat) (listed : Array Bool) (a : Act) (M : Nat → World → Prop) (w : World), C w → (∀ k, M k w) → (∀ k w w', M k w → St w w' → M k w') → wpAnyG P md ops C A n L f listed a M → wpAny P md ops Q' (f + g) listed a w
  | 0, listed, a, M, w, hw, hM, _, h => by rw [Nat.zero_add]; exact hL _ _ _ _ h hw hM
  | f + 1, listed, a, M, w, hw, hM, hS, h => by
    rw [show f + 1 + g = (f + g) + 1 by omega]
    exact ⟨fun h0 => absurd h0 h.1, fun i hi => wpOp_of_gOp hC hA hw hM hS (fun a' M' w' h' hw' hM' hS' => wpAny_of_G hC hA hL f _ a' M' w' hw' hM' hS' h') (h.2 i hi).2⟩

theorem gOp_mono {i : Nat} {K K' : Act → (Nat → World → Prop) → Prop} {a : Act} {M : Nat → World → Prop} (h : ∀ a M, K a M → K' a M) (hh : gOp P md ops C A i K a M) : gOp P md ops C A i K' a M := by
  unfold gOp at *
  split
  · rename_i ho; simp only [ho] at hh; exact h _ _ hh
  · rename_i o ho
    simp only [ho] at hh
    split
    · rename_i hw
      simp only [hw, if_true] at hh
      unfold gDo at *
      cases hAi : A i with
      | none => simp only [hAi] at hh ⊢; obtain ⟨v, h1, h2⟩ := hh; exact ⟨v, h1, h _ _ h2⟩
      | some F => simp only [hAi] at hh ⊢; exact ⟨hh.1, fun v hv => h _ _ (hh.2 v hv)⟩
    · rename_i hw; simp only [hw] at hh; exact h _ _ hh

/-- A quiet operation, or one that is passed over. -/
def YQ (P : Program) (md : Region.Mode) (ops : Array Oper) (C : World → Prop) (A : Nat → Option (Value → World → Prop)) (i : Nat) (o : Oper) (v : Value) (a : Act) (M : Nat → World → Prop) : Prop :=
  (Region.wanted o (yielded ops a.tmps) = true ∧ A i = none ∧ ∀ w, Kn C md o M w → qAt P o a w v) ∨ (Region.wanted o (yielded ops a.tmps) = false ∧ v = undef)
theorem YQ.gOp {i : Nat} {o : Oper} {v : Value} {a : Act} {M : Nat → World → Prop} (hi : ops[i]? = some o) (hy : YQ P md ops C A i o v a M) {K : Act → (Nat → World → Prop) → Prop} (h : K (a.put o.dst v) M) : gOp P md ops C A i K a M := by
  unfold Fl.gOp
  simp only [hi]
  rcases hy with ⟨hw, hA, hv⟩ | ⟨hw, rfl⟩
  · simp only [hw, if_true, gDo, hA]; exact ⟨v, hv, h⟩
  · simp only [hw, Bool.false_eq_true, if_false]; exact h
/-- An operation that makes something. -/
def YM (P : Program) (md : Region.Mode) (ops : Array Oper) (C : World → Prop) (A : Nat → Option (Value → World → Prop)) (i : Nat) (o : Oper) (F : Value → World → Prop) (a : Act) (M : Nat → World → Prop) : Prop :=
  Region.wanted o (yielded ops a.tmps) = true ∧ A i = some F ∧ ∀ w, Kn C md o M w → mkAt P o a w F

theorem qAt_put {o : Oper} (hs : ∀ cs b, o.op ≠ .select cs b) {a : Act} {dst : Option Tmp} {u : Value} (h : ∀ d, dst = some d → d ∉ o.looksAt ops) (w : World) (v : Value) : qAt P o (a.put dst u) w v = qAt P o a w v := by
  unfold qAt; rw [execOp_put o hs a dst u h]
theorem mkAt_put {o : Oper} (hs : ∀ cs b, o.op ≠ .select cs b) {a : Act} {dst : Option Tmp} {u : Value} (h : ∀ d, dst = some d → d ∉ o.looksAt ops) (w : World) (F : Value → World → Prop) : mkAt P o (a.put dst u) w F = mkAt P o a w F := by
  unfold mkAt; rw [execOp_put o hs a dst u h]

theorem YQ.put {i : Nat} {oi oj : Oper} {v u : Value} {a : Act} {M : Nat → World → Prop} (h3 : ∀ d, oj.dst = some d → d ∉ oi.looksAt ops) (hsi : ∀ cs b, oi.op ≠ .select cs b) (hy : YQ P md ops C A i oi v a M) : YQ P md ops C A i oi v (a.put oj.dst u) M := by
  unfold YQ at *
  rw [wanted_put oi a oj.dst u h3]
  simp only [qAt_put hsi h3]
  exact hy
theorem YQ.fact {i j : Nat} {oi : Oper} {v : Value} {a : Act} {M : Nat → World → Prop} {F : World → Prop} (hy : YQ P md ops C A i oi v a M) : YQ P md ops C A i oi v a (Fput M j F) := by
  rcases hy with ⟨h1, h2, h3⟩ | h
  · exact .inl ⟨h1, h2, fun w hk => h3 w (Kn_of_put hk)⟩
  · exact .inr h
theorem YM.put {i : Nat} {oi oj : Oper} {F : Value → World → Prop} {u : Value} {a : Act} {M : Nat → World → Prop} (h3 : ∀ d, oj.dst = some d → d ∉ oi.looksAt ops) (hsi : ∀ cs b, oi.op ≠ .select cs b) (hy : YM P md ops C A i oi F a M) : YM P md ops C A i oi F (a.put oj.dst u) M := by
  unfold YM at *
  rw [wanted_put oi a oj.dst u h3]
  simp only [mkAt_put hsi h3]
  exact hy
theorem YM.fact {i j : Nat} {oi : Oper} {F : Value → World → Prop} {a : Act} {M : Nat → World → Prop} {G : World → Prop} (hy : YM P md ops C A i oi F a M) : YM P md ops C A i oi F a (Fput M j G) :=
  ⟨hy.1, hy.2.1, fun w hk => hy.2.2 w (Kn_of_put hk)⟩

/-- Another operation, apart from a quiet one: the quiet one may be put behind it. -/
theorem gOp_putQ {j : Nat} {i : Nat} {oi oj : Oper} {v : Value} (hj : ops[j]? = some oj) (hap : oi.apart ops oj = true)
    (hsi : ∀ cs b, oi.op ≠ .select cs b) (hsj : ∀ cs b, oj.op ≠ .select cs b) {K : Act → (Nat → World → Prop) → Prop} {a : Act} {M : Nat → World → Prop} (hne : ∃ w, C w ∧ ∀ k, M k w)
    (hy : YQ P md ops C A i oi v a M) (h : gOp P md ops C A j K (a.put oi.dst v) M) :
    gOp P md ops C A j (fun a' M' => YQ P md ops C A i oi v a' M' ∧ (∃ w, C w ∧ ∀ k, M' k w) ∧ K (a'.put oi.dst v) M') a M := by
  obtain ⟨h1, h2, h3⟩ := Oper.apart_spec hap
  unfold gOp at *
  simp only [hj] at *
  rw [wanted_put oj a oi.dst v h1] at h
  split
  · rename_i hw
    simp only [hw, if_true] at h
    unfold gDo at *
    cases hAj : A j with
    | none =>
      simp only [hAj] at h ⊢
      obtain ⟨u, hu, hn⟩ := h
      simp only [qAt_put hsj h1] at hu
      exact ⟨u, hu, hy.put h3 hsi, hne, by rw [← Act.put_comm a v u h2]; exact hn⟩
    | some G =>
      simp only [hAj] at h ⊢
      obtain ⟨hu, hn⟩ := h
      simp only [mkAt_put hsj h1] at hu
      exact ⟨hu, fun u hu' => ⟨(hy.put h3 hsi).fact, (by obtain ⟨w, hw1, hw2, hw3⟩ := hu'; exact ⟨w, hw1, fun k => ⟨hw2 k, fun _ => hw3⟩⟩), by rw [← Act.put_comm a v u h2]; exact hn u hu'⟩⟩
  · rename_i hw
    simp only [hw] at h
    exact ⟨hy.put h3 hsi, hne, by rw [← Act.put_comm a v undef h2]; exact h⟩

/-- The same for one that makes something. -/
theorem gOp_putM (hC : ∀ w w', C w → St w w' → C w') {j : Nat} {i : Nat} {oi oj : Oper} {F : Value → World → Prop} (hj : ops[j]? = some oj) (hap : oi.apart ops oj = true)
    (hno : ∀ e ∈ oj.after, Region.binds md e = true → e.on ≠ i)
    (hsi : ∀ cs b, oi.op ≠ .select cs b) (hsj : ∀ cs b, oj.op ≠ .select cs b) {K : Act → (Nat → World → Prop) → Prop} {a : Act} {M : Nat → World → Prop} (hne : ∃ w, C w ∧ ∀ k, M k w) (hS : ∀ k w w', M k w → St w w' → M k w')
    (hA : ∀ i F, A i = some F → ∀ v w w', F v w → St w w' → F v w')
    (hy : YM P md ops C A i oi F a M) (h : ∀ v, (∃ w, C w ∧ (∀ k, M k w) ∧ F v w) → gOp P md ops C A j K (a.put oi.dst v) (Fput M i (F v))) :
    gOp P md ops C A j (fun a' M' => YM P md ops C A i oi F a' M' ∧ (∃ w, C w ∧ ∀ k, M' k w) ∧ (∀ k w w', M' k w → St w w' → M' k w') ∧ ∀ v, (∃ w, C w ∧ (∀ k, M' k w) ∧ F v w) → K (a'.put oi.dst v) (Fput M' i (F v))) a M := by
  obtain ⟨h1, h2, h3⟩ := Oper.apart_spec hap
  obtain ⟨w0, hw0, hM0⟩ := hne
  obtain ⟨v0, w1, hF0, hs0⟩ := mkAt_some (hy.2.2 w0 (Kn_all hw0 hM0))
  have hv0 : ∃ w, C w ∧ (∀ k, M k w) ∧ F v0 w := ⟨w1, hC _ _ hw0 hs0, fun k => hS k _ _ (hM0 k) hs0, hF0⟩
  unfold gOp at *
  simp only [hj] at *
  have hw' : ∀ v, Region.wanted oj (yielded ops (a.put oi.dst v).tmps) = Region.wanted oj (yielded ops a.tmps) := fun v => wanted_put oj a oi.dst v h1
  simp only [hw'] at h
  split
  · rename_i hw
    simp only [hw, if_true] at h
    unfold gDo at *
    cases hAj : A j with
    | none =>
      simp only [hAj] at h ⊢
      obtain ⟨u0, hu0, _⟩ := h v0 hv0
      simp only [qAt_put hsj h1] at hu0
      refine ⟨u0, fun w hk => hu0 w (Kn_put hno hk), hy.put h3 hsi, ⟨w0, hw0, hM0⟩, hS, fun v hv => ?_⟩
      obtain ⟨u, hu, hn⟩ := h v hv
      simp only [qAt_put hsj h1] at hu
      have : u = u0 := qAt_eq (hu w0 (Kn_put hno (Kn_all hw0 hM0))) (hu0 w0 (Kn_put hno (Kn_all hw0 hM0)))
      subst this
      rw [← Act.put_comm a v u h2]
      exact hn
    | some G =>
      simp only [hAj] at h ⊢
      have hu0 := (h v0 hv0).1
      simp only [mkAt_put hsj h1] at hu0
      refine ⟨fun w hk => hu0 w (Kn_put hno hk), fun u hu => ⟨(hy.put h3 hsi).fact, ?_, fun k w w' hk hst => ⟨hS k _ _ hk.1 hst, fun he => hA j G hAj u _ _ (hk.2 he) hst⟩, fun v hv => ?_⟩⟩
      · obtain ⟨w, hw1, hw2, hw3⟩ := hu
        exact ⟨w, hw1, fun k => ⟨hw2 k, fun _ => hw3⟩⟩
      · obtain ⟨w, hw1, hw2, hw3⟩ := hv
        have := (h v ⟨w, hw1, fun k => (hw2 k).1, hw3⟩).2 u ⟨w, hw1, fun k => ⟨(hw2 k).1, fun _ => hw3⟩, (hw2 j).2 rfl⟩
        rw [← Act.put_comm a v u h2, Fput_comm]
        exact this
  · rename_i hw
    simp only [hw] at h
    exact ⟨hy.put h3 hsi, ⟨w0, hw0, hM0⟩, hS, fun v hv => by rw [← Act.put_comm a v undef h2]; exact h v hv⟩

theorem wpAnyG_firstQ {n i : Nat} {oi : Oper} {v : Value} {L : Array Bool → Act → (Nat → World → Prop) → Prop} (hi : ops[i]? = some oi) (hsel : ∀ (j : Nat) (o : Oper) cs b, ops[j]? = some o → o.op ≠ .select cs b)
    (hs : Region.sinkB md ops n = true) (hc : Region.chainB md ops n = true) (hn : n < ops.size) (hin : i < n)
    (hdone : ∀ listed a M, L listed a M → ∀ j ∈ Region.ready md ops listed, n ≤ j) :
    ∀ (f : Nat) (listed : Array Bool) (a : Act) (M : Nat → World → Prop), HeadInv md ops n listed → (∃ w, C w ∧ ∀ k, M k w) →
      (∀ j oj, ops[j]? = some oj → j ≠ i → listed.getD j true = false → (∀ e ∈ oj.after, Region.binds md e = true → e.on ≠ i) → oi.apart ops oj = true) →
      i ∈ Region.ready md ops listed → YQ P md ops C A i oi v a M →
      wpAnyG P md ops C A n L f (listed.setIfInBounds i true) (a.put oi.dst v) M → wpAnyG P md ops C A n L (f + 1) listed a M := by
  intro f
  induction f with
  | zero =>
    intro listed a M inv _ _ hr hy H
    have hun := (mem_ready.1 hr).1
    refine ⟨fun h => (by rw [h] at hr; cases hr), fun j hj => ?_⟩
    have hjn : j < n := by
      rcases Nat.lt_or_ge j n with h | h
      · exact h
      · exact absurd hj (tail_waits hs hc hn inv _ i rfl hin hun j h)
    refine ⟨hjn, ?_⟩
    by_cases hji : j = i
    · subst hji; exact hy.gOp hi H
    · have := hdone _ _ _ H j (ready_mono hj hji)
      omega
  | succ f ih =>
    intro listed a M inv hne hfree hr hy H
    have hun := (mem_ready.1 hr).1
    refine ⟨fun h => (by rw [h] at hr; cases hr), fun j hj => ?_⟩
    have hjn : j < n := by
      rcases Nat.lt_or_ge j n with h | h
      · exact h
      · exact absurd hj (tail_waits hs hc hn inv _ i rfl hin hun j h)
    refine ⟨hjn, ?_⟩
    by_cases hji : j = i
    · subst hji; exact hy.gOp hi H
    · have h1 := (H.2 j (ready_mono hj hji)).2
      obtain ⟨hjun, oj, hoj, hall⟩ := mem_ready.1 hj
      have hnot : ∀ e ∈ oj.after, Region.binds md e = true → e.on ≠ i := fun e he hb heq => by
        have h1 := hall e he hb
        rw [heq, getD_both hun] at h1
        cases h1
      have h2 := gOp_putQ hoj (hfree j oj hoj hji hjun hnot) (fun cs b => hsel i oi cs b hi) (fun cs b => hsel j oj cs b hoj) hne hy h1
      have hfree' : ∀ k ok, ops[k]? = some ok → k ≠ i → (listed.setIfInBounds j true).getD k true = false →
          (∀ e ∈ ok.after, Region.binds md e = true → e.on ≠ i) → oi.apart ops ok = true := fun k ok hk hki hun hno => by
        refine hfree k ok hk hki ?_ hno
        by_cases hjk : j = k
        · subst hjk; exact hjun
        · rw [getD_set_ne true hjk] at hun; exact hun
      refine gOp_mono (fun a' M' h3 => ih (listed.setIfInBounds j true) a' M' (inv.set hj hjn) h3.2.1 hfree' (ready_mono hr (Ne.symm hji)) h3.1 ?_) h2
      rw [Array.setIfInBounds_comm _ _ hji]
      exact h3.2.2

theorem wpAnyG_firstM (hC : ∀ w w', C w → St w w' → C w') (hA : ∀ i F, A i = some F → ∀ v w w', F v w → St w w' → F v w') {n i : Nat} {oi : Oper} {F : Value → World → Prop} {L : Array Bool → Act → (Nat → World → Prop) → Prop} (hi : ops[i]? = some oi) (hsel : ∀ (j : Nat) (o : Oper) cs b, ops[j]? = some o → o.op ≠ .select cs b)
    (hs : Region.sinkB md ops n = true) (hc : Region.chainB md ops n = true) (hn : n < ops.size) (hin : i < n)
    (hdone : ∀ listed a M, L listed a M → ∀ j ∈ Region.ready md ops listed, n ≤ j) :
    ∀ (f : Nat) (listed : Array Bool) (a : Act) (M : Nat → World → Prop), HeadInv md ops n listed → (∃ w, C w ∧ ∀ k, M k w) → (∀ k w w', M k w → St w w' → M k w') →
      (∀ j oj, ops[j]? = some oj → j ≠ i → listed.getD j true = false → (∀ e ∈ oj.after, Region.binds md e = true → e.on ≠ i) → oi.apart ops oj = true) →
      i ∈ Region.ready md ops listed → YM P md ops C A i oi F a M →
      (∀ v, (∃ w, C w ∧ (∀ k, M k w) ∧ F v w) → wpAnyG P md ops C A n L f (listed.setIfInBounds i true) (a.put oi.dst v) (Fput M i (F v))) → wpAnyG P md ops C A n L (f + 1) listed a M := by
  intro f
  induction f with
  | zero =>
    intro listed a M inv hne hS _ hr hy H
    have hun := (mem_ready.1 hr).1
    refine ⟨fun h => (by rw [h] at hr; cases hr), fun j hj => ?_⟩
    have hjn : j < n := by
      rcases Nat.lt_or_ge j n with h | h
      · exact h
      · exact absurd hj (tail_waits hs hc hn inv _ i rfl hin hun j h)
    refine ⟨hjn, ?_⟩
    by_cases hji : j = i
    · subst hji
      unfold gOp; simp only [hi, hy.1, if_true, gDo, hy.2.1]; exact ⟨hy.2.2, H⟩
    · obtain ⟨w0, hw0, hM0⟩ := hne
      obtain ⟨v0, w1, hF0, hs0⟩ := mkAt_some (hy.2.2 w0 (Kn_all hw0 hM0))
      have := hdone _ _ _ (H v0 ⟨w1, hC _ _ hw0 hs0, fun k => hS k _ _ (hM0 k) hs0, hF0⟩) j (ready_mono hj hji)
      omega
  | succ f ih =>
    intro listed a M inv hne hS hfree hr hy H
    have hun := (mem_ready.1 hr).1
    refine ⟨fun h => (by rw [h] at hr; cases hr), fun j hj => ?_⟩
    have hjn : j < n := by
      rcases Nat.lt_or_ge j n with h | h
      · exact h
      · exact absurd hj (tail_waits hs hc hn inv _ i rfl hin hun j h)
    refine ⟨hjn, ?_⟩
    by_cases hji : j = i
    · subst hji
      unfold gOp; simp only [hi, hy.1, if_true, gDo, hy.2.1]; exact ⟨hy.2.2, H⟩
    · have h1 := fun v hv => ((H v hv).2 j (ready_mono hj hji)).2
      obtain ⟨hjun, oj, hoj, hall⟩ := mem_ready.1 hj
      have hnot : ∀ e ∈ oj.after, Region.binds md e = true → e.on ≠ i := fun e he hb heq => by
        have h1 := hall e he hb
        rw [heq, getD_both hun] at h1
        cases h1
      have h2 := gOp_putM hC hoj (hfree j oj hoj hji hjun hnot) hnot (fun cs b => hsel i oi cs b hi) (fun cs b => hsel j oj cs b hoj) hne hS hA hy h1
      have hfree' : ∀ k ok, ops[k]? = some ok → k ≠ i → (listed.setIfInBounds j true).getD k true = false →
          (∀ e ∈ ok.after, Region.binds md e = true → e.on ≠ i) → oi.apart ops ok = true := fun k ok hk hki hun hno => by
        refine hfree k ok hk hki ?_ hno
        by_cases hjk : j = k
        · subst hjk; exact hjun
        · rw [getD_set_ne true hjk] at hun; exact hun
      refine gOp_mono (fun a' M' h3 => ih (listed.setIfInBounds j true) a' M' (inv.set hj hjn) h3.2.1 h3.2.2.1 hfree' (ready_mono hr (Ne.symm hji)) h3.1 fun v hv => ?_) h2
      rw [Array.setIfInBounds_comm _ _ hji]
      exact h3.2.2.2 v hv

theorem wpAnyG_lex (hC : ∀ w w', C w → St w w' → C w') (hA : ∀ i F, A i = some F → ∀ v w w', F v w → St w w' → F v w') {n g : Nat} {Lq : Act → (Nat → World → Prop) → Prop} (hsel : Region.noSelect ops = true) (hs : Region.sinkB md ops n = true) (hc : Region.chainB md ops n = true) (hn : n < ops.size) :
    ∀ (l : List Oper) (k : Nat) (listed : Array Bool) (a : Act) (M : Nat → World → Prop), (∀ j, j < l.length → l[j]? = ops[k + j]?) → k + l.length = n → HeadInv md ops n listed → (∃ w, C w ∧ ∀ k, M k w) → (∀ k w w', M k w → St w w' → M k w') →
    Region.lexHead md ops g l.length k listed = true → wpG P md ops C A Lq l k a M →
    wpAnyG P md ops C A n (fun listed' a' M' => Region.seqB md ops g n listed' = true ∧ Lq a' M') l.length listed a M
  | [], k, listed, a, M, _, hk, _, _, _, hB, h => by
    have : k = n := by simpa using hk
    subst this
    exact ⟨by simpa [Region.lexHead] using hB, h⟩
  | o :: l, k, listed, a, M, hl, hk, inv, hne, hS, hB, h => by
    have h0 : ops[k]? = some o := by simpa using (hl 0 (by simp)).symm
    simp only [List.length_cons, Region.lexHead, Bool.and_eq_true] at hB
    obtain ⟨⟨hr, hf⟩, hB'⟩ := hB
    have hkn : k < n := by simp only [List.length_cons] at hk; omega
    have hr' : k ∈ Region.ready md ops listed := by simpa using hr
    have hl' : ∀ j, j < l.length → l[j]? = ops[k + 1 + j]? := fun j hj => by have := hl (j + 1) (by simp; omega); simpa [Nat.add_assoc, Nat.add_comm 1 j] using this
    have hk' : k + 1 + l.length = n := by simp only [List.length_cons] at hk; omega
    unfold wpG at h
    by_cases hw : Region.wanted o (yielded ops a.tmps) = true
    · simp only [hw, if_true] at h
      unfold gDo at h
      cases hAk : A k with
      | none =>
        simp only [hAk] at h
        obtain ⟨v, hv, hK⟩ := h
        exact wpAnyG_firstQ h0 (Region.noSelect_spec hsel) hs hc hn hkn (fun listed' a' M' hL => seqB_ready hL.1) l.length listed a M inv hne (Region.free_spec h0 hf) hr' (.inl ⟨hw, hAk, hv⟩)
          (wpAnyG_lex hC hA hsel hs hc hn l (k + 1) _ _ _ hl' hk' (inv.set hr' hkn) hne hS hB' hK)
      | some F =>
        simp only [hAk] at h
        exact wpAnyG_firstM hC hA h0 (Region.noSelect_spec hsel) hs hc hn hkn (fun listed' a' M' hL => seqB_ready hL.1) l.length listed a M inv hne hS (Region.free_spec h0 hf) hr' ⟨hw, hAk, h.1⟩
          (fun v hv => wpAnyG_lex hC hA hsel hs hc hn l (k + 1) _ _ _ hl' hk' (inv.set hr' hkn) (by obtain ⟨w, hw1, hw2, hw3⟩ := hv; exact ⟨w, hw1, fun k => ⟨hw2 k, fun _ => hw3⟩⟩)
            (fun k' w w' hk hst => ⟨hS k' _ _ hk.1 hst, fun he => hA k F hAk v _ _ (hk.2 he) hst⟩) hB' (h.2 v hv))
    · simp only [hw] at h
      exact wpAnyG_firstQ h0 (Region.noSelect_spec hsel) hs hc hn hkn (fun listed' a' M' hL => seqB_ready hL.1) l.length listed a M inv hne (Region.free_spec h0 hf) hr' (.inr ⟨by simpa using hw, rfl⟩)
        (wpAnyG_lex hC hA hsel hs hc hn l (k + 1) _ _ _ hl' hk' (inv.set hr' hkn) hne hS hB' h)
end

/-- A world that keeps all that was there in w. -/
structure AW (w : World) where
  val : World
  aft : Below w.heap.size w val
instance AW.nonempty (w : World) : Nonempty (AW w) := ⟨⟨w, Below.refl _ _⟩⟩
/-- The class of the worlds behind w. -/
abbrev Aft (w : World) : World → Prop := fun w' => ∃ x : AW w, w' = x.val
theorem Aft.intro {w w' : World} (h : Below w.heap.size w w') : Aft w w' := ⟨⟨w', h⟩, rfl⟩
theorem Aft.below {w w' : World} (h : Aft w w') : Below w.heap.size w w' := by obtain ⟨x, rfl⟩ := h; exact x.aft

/-- **A region that draws its order, walked in the order of the text; its last operations, from number n on, wait for all others and may write.** -/
theorem wp_region_free {P : Program} {id : Nat} {Q : Exit → Act → World → Prop} {a : Act} {w : World} {l : List Oper} (n : Nat) (A : Nat → Option (Value → World → Prop)) (hm : P.follows .mixedOrders = true) (hB : Region.lexTailB .any l.toArray n = true)
    (hA : ∀ i F, A i = some F → ∀ v w w', F v w → St w w' → F v w')
    (h : wpG P .any l.toArray (Aft w) A (fun a' M => ∀ w', Below w.heap.size w w' → (∀ k, M k w') → wpList P l.toArray Q (l.drop n) a' w') (l.take n) 0 a (fun _ _ => True)) : (Code.region id l.toArray true).wp P Q a w := by
  simp only [Region.lexTailB, Bool.and_eq_true, decide_eq_true_eq] at hB
  obtain ⟨⟨⟨⟨hsel, hn⟩, hs⟩, hc⟩, hlex⟩ := hB
  have hn' : n < l.length := by simpa using hn
  have htl : (l.take n).length = n := by simp; omega
  have hdl : (l.drop n).length = l.toArray.size - n := by simp
  have hC : ∀ w1 w2, Aft w w1 → St w1 w2 → Aft w w2 := fun w1 w2 h1 h2 => Aft.intro (St.trans h1.below h2)
  have h0 : Aft w { w with drawn := w.drawn + 1 } := Aft.intro ⟨rfl, rfl, rfl, Nat.le_refl _, fun _ _ => rfl⟩
  have inv0 : HeadInv .any l.toArray n (Array.replicate l.toArray.size false) :=
    ⟨by simp, fun j oj _ hl => (by rw [getD_replicate_false] at hl; cases hl), fun t _ ht => getD_in (by simpa using ht) (getD_replicate_false _ _)⟩
  have H := wpAnyG_lex (md := .any) (g := l.toArray.size - n) hC hA hsel hs hc hn (l.take n) 0 _ a (fun _ _ => True) (fun j hj => by
    have hj' : j < n := by rw [htl] at hj; exact hj
    simp [hj']) (by simpa using htl) inv0 ⟨_, h0, fun _ => trivial⟩ (fun _ _ _ _ _ => trivial) (by rw [htl]; exact hlex) h
  refine wp_region_any hm ?_
  have := wpAny_of_G (Q' := Q) (g := l.toArray.size - n) hC hA (fun listed a' M w' hL hw' hM => by
    have := wpAny_of_seq (md := .any) (Q' := Q) (l.drop n) n listed a' w' (fun j => by simp [List.getElem?_drop]) (by rw [hdl]; exact hL.1) (hL.2 w' hw'.below hM)
    rwa [hdl] at this) _ _ _ _ _ h0 (fun _ => trivial) (fun _ _ _ _ _ => trivial) H
  rw [htl, show n + (l.toArray.size - n) = l.toArray.size by omega] at this
  exact this


/-! ### The steps of the walk -/
section
variable {P : Program} {md : Region.Mode} {ops : Array Oper} {C : World → Prop} {A : Nat → Option (Value → World → Prop)} {Q : Act → (Nat → World → Prop) → Prop} {o : Oper} {rest : List Oper} {k : Nat} {a : Act} {M : Nat → World → Prop}
theorem wpG_nil (h : Q a M) : wpG P md ops C A Q [] k a M := h
theorem wpG_skip (hw : Region.wanted o (yielded ops a.tmps) = false) (hn : wpG P md ops C A Q rest (k + 1) (a.put o.dst undef) M) : wpG P md ops C A Q (o :: rest) k a M := by
  unfold wpG; rw [hw]; exact hn
theorem wpG_run (hA : A k = none) (hw : Region.wanted o (yielded ops a.tmps) = true) (v : Value) (h : ∀ w, C w → (execOp a.eval o).run P w = .ok (.value v) w)
    (hn : wpG P md ops C A Q rest (k + 1) (a.put o.dst v) M) : wpG P md ops C A Q (o :: rest) k a M := by
  unfold wpG; rw [hw]; simp only [if_true, gDo, hA]; exact ⟨v, fun w hk => .inl (h w hk.1), hn⟩
/-- With what is known by an operation that made something and that this one waits for. -/
theorem wpG_dep (j : Nat) (hA : A k = none) (hw : Region.wanted o (yielded ops a.tmps) = true) (hj : o.after.any (fun e => Region.binds md e && e.on == j) = true) (v : Value)
    (h : ∀ w, C w → M j w → (execOp a.eval o).run P w = .ok (.value v) w) (hn : ∀ K : Act → (Nat → World → Prop) → Prop, (∀ a M, wpG P md ops C A Q rest (k + 1) a M → K a M) → K (a.put o.dst v) M) : wpG P md ops C A Q (o :: rest) k a M := by
  unfold wpG; rw [hw]; simp only [if_true, gDo, hA]
  refine ⟨v, fun w hk => .inl (h w hk.1 ?_), hn _ fun _ _ h => h⟩
  obtain ⟨e, he, hb⟩ := Array.any_eq_true'.1 hj
  simp only [Bool.and_eq_true, beq_iff_eq] at hb
  rw [← hb.2]; exact hk.2 e he hb.1
theorem wpG_make (F : Value → World → Prop) (hA : A k = some F) (hw : Region.wanted o (yielded ops a.tmps) = true) (h : ∀ w, C w → mkAt P o a w F)
    (hn : ∀ v w, C w → F v w → ∀ K : Act → (Nat → World → Prop) → Prop, (∀ a M, wpG P md ops C A Q rest (k + 1) a M → K a M) → K (a.put o.dst v) (Fput M k (F v))) : wpG P md ops C A Q (o :: rest) k a M := by
  unfold wpG; rw [hw]; simp only [if_true, gDo, hA]; exact ⟨fun w hk => h w hk.1, fun v ⟨w, hc, _, hF⟩ => hn v w hc hF _ fun _ _ h => h⟩
theorem wpG_make_dep (j : Nat) (F : Value → World → Prop) (hA : A k = some F) (hw : Region.wanted o (yielded ops a.tmps) = true) (hj : o.after.any (fun e => Region.binds md e && e.on == j) = true) (h : ∀ w, C w → M j w → mkAt P o a w F)
    (hn : ∀ v w, C w → F v w → ∀ K : Act → (Nat → World → Prop) → Prop, (∀ a M, wpG P md ops C A Q rest (k + 1) a M → K a M) → K (a.put o.dst v) (Fput M k (F v))) : wpG P md ops C A Q (o :: rest) k a M := by
  unfold wpG; rw [hw]; simp only [if_true, gDo, hA]
  refine ⟨fun w hk => h w hk.1 ?_, fun v ⟨w, hc, _, hF⟩ => hn v w hc hF _ fun _ _ h => h⟩
  obtain ⟨e, he, hb⟩ := Array.any_eq_true'.1 hj
  simp only [Bool.and_eq_true, beq_iff_eq] at hb
  rw [← hb.2]; exact hk.2 e he hb.1

/-- Operations that enter no function. -/
def noEnter : Op → Bool
  | .call c => (match c.callee with | .builtin .len | .builtin .cap | .builtin .max | .builtin .min => true | _ => false)
  | .nilCheck _ | .go _ | .defer _ | .send .. | .recv .. | .select .. => false
  | _ => true
theorem run_value {α : Type} {f : α → Value} {s : Sem α} {w w' : World} {n : Next} (h : ((do let x ← s; pure (Next.value (f x))) : Sem Next).run P w = .ok n w') : ∃ u, n = .value u := by
  simp only [Sem.run_bind] at h
  cases hs : s.run P w with
  | ok x w1 => rw [hs] at h; simp only [Result.andThen, Sem.run_pure, Result.ok.injEq] at h; exact ⟨f x, h.1.symm⟩
  | halt x w1 => rw [hs] at h; simp [Result.andThen] at h
theorem run_unit {s : Sem Unit} {w w' : World} {n : Next} (h : ((do s; pure Next.skip) : Sem Next).run P w = .ok n w') : n = .skip := by
  simp only [Sem.run_bind] at h
  cases hs : s.run P w with
  | ok x w1 => rw [hs] at h; simp only [Result.andThen, Sem.run_pure, Result.ok.injEq] at h; exact h.1.symm
  | halt x w1 => rw [hs] at h; simp [Result.andThen] at h
theorem noEnter_run {ρ : Operand → Value} {w w' : World} {n : Next} (hn : noEnter o.op = true) (h : (execOp ρ o).run P w = .ok n w') : (∃ u, n = .value u) ∨ n = .skip := by
  unfold execOp at h
  cases hop : o.op <;> simp only [hop, noEnter, Bool.false_eq_true] at h hn
  case move x => exact .inl ⟨_, (by simpa [Sem.run_pure] using h.symm : n = _ ∧ _).1⟩
  case assign x => exact .inl ⟨_, (by simpa [Sem.run_pure] using h.symm : n = _ ∧ _).1⟩
  case call c =>
    cases hc : c.callee with
    | value f => simp [hc] at hn
    | invoke r m => simp [hc] at hn
    | builtin b =>
      cases b <;> simp [hc] at hn <;> (unfold resolve at h; rw [hc] at h; exact .inl (run_value (f := id) h))
  case pick c x y => exact .inl (run_value h)
  all_goals first
    | exact .inl (run_value (f := id) h)
    | exact .inr (run_unit h)

theorem wpG_quiets' : ∀ (n : Nat) (l : List Oper) (k : Nat) (a : Act), (∀ i, i < n → A (k + i) = none) → (l.take n).all (fun o => noEnter o.op) = true →
    wpQuiet P ops C (fun a' => wpG P md ops C A Q (l.drop n) (k + n) a' M) (l.take n) a → wpG P md ops C A Q l k a M
  | 0, l, k, a, _, _, h => h
  | n + 1, [], k, a, _, _, h => h
  | n + 1, o :: l, k, a, hA, hne, h => by
    simp only [List.take_succ_cons, List.all_cons, Bool.and_eq_true] at hne
    simp only [List.take_succ_cons, List.drop_succ_cons, wpQuiet] at h
    have hA' : ∀ i, i < n → A (k + 1 + i) = none := fun i hi => by have := hA (i + 1) (by omega); rwa [show k + 1 + i = k + (i + 1) by omega]
    have e : k + (n + 1) = k + 1 + n := by omega
    rw [e] at h
    unfold wpG
    split at h
    · rename_i hw
      rw [if_pos hw]
      obtain ⟨v, hq, hn⟩ := h
      have hk : A k = none := hA 0 (by omega)
      simp only [gDo, hk]
      refine ⟨v, fun w hkn => ?_, wpG_quiets' n l (k + 1) _ hA' hne.2 hn⟩
      have h1 := hq w hkn.1
      unfold Oper.quietAt at h1
      unfold qAt
      cases hr : (execOp a.eval o).run P w with
      | ok x w' =>
        rw [hr] at h1
        rcases noEnter_run hne.1 hr with ⟨u, rfl⟩ | rfl
        · simp only [Oper.quietUpon] at h1; left; rw [h1.1, h1.2]
        · simp only [Oper.quietUpon] at h1; right; rw [h1.1]; exact ⟨rfl, h1.2⟩
      | halt x w' => rw [hr] at h1; simp only [Oper.quietUpon] at h1
    · rename_i hw
      rw [if_neg hw]
      exact wpG_quiets' n l (k + 1) _ hA' hne.2 h
/-- The next n operations, all quiet, by the library's own walk. -/
theorem wpG_quiets (n : Nat) {l : List Oper} (hA : ((List.range n).all fun i => (A (k + i)).isNone) = true) (hne : (l.take n).all (fun o => noEnter o.op) = true)
    (h : wpQuiet P ops C (fun a' => wpG P md ops C A Q (l.drop n) (k + n) a' M) (l.take n) a) : wpG P md ops C A Q l k a M :=
  wpG_quiets' n l k a (fun i hi => Option.isNone_iff_eq_none.1 (List.all_eq_true.1 hA i (List.mem_range.2 hi))) hne h
end

/-- The facts of the operations that make something, by number. -/
def An (l : List (Nat × (Value → World → Prop))) : Nat → Option (Value → World → Prop) := fun i => l.lookup i
def Lasts (F : Value → World → Prop) : Prop := ∀ v w w', F v w → St w w' → F v w'
theorem An_lasts {l : List (Nat × (Value → World → Prop))} (h : ∀ p ∈ l, Lasts p.2) : ∀ i F, An l i = some F → ∀ v w w', F v w → St w w' → F v w' := by
  induction l with
  | nil => intro i F hF; simp [An] at hF
  | cons p l ih =>
    intro i F hF
    unfold An at hF
    rw [List.lookup_cons] at hF
    split at hF
    · rw [← Option.some.inj hF]; exact h p (by simp)
    · exact ih (fun q hq => h q (by simp [hq])) i F hF
theorem mk_enter {P : Program} {F : Value → World → Prop} {f : FuncId} {args : Array Value} {w : World} (h : Calls P f args w (fun e w' => ∃ v, e = .returned v ∧ F v w' ∧ St w w')) : mkUpon P F w (.ok (.enter f args) w) := ⟨St.refl _, h⟩
theorem mk_value {P : Program} {F : Value → World → Prop} {u : Value} {w w' : World} (h : F u w') (hs : St w w') : mkUpon P F w (.ok (.value u) w') := ⟨h, hs⟩
theorem lasts_eq (c : Value) : Lasts (fun v _ => v = c) := fun _ _ _ h _ => h
end Go.Fl
