/- Values that may stand for others, as deep as one likes: a slice of nothing has no size. -/
import Derived.Test.YtlcdehedojkgoaaDoorV20
namespace Go.Vx
open Go.RowKit Go.Fl

def Vsub (v v' : V) : Prop := (v.one = true → v'.one = true) ∧ ∀ w S c, PRel w S v c → PRel w S v' c
inductive VsubL : List V → List V → Prop
  | nil : VsubL [] []
  | cons {v v' : V} {r r' : List V} (h : Vsub v v') (t : VsubL r r') : VsubL (v :: r) (v' :: r')
inductive VsubE : List V → List V → Prop
  | nil : VsubE [] []
  | cons {v v' : V} {r r' : List V} (h : VsubL v.cells v'.cells) (t : VsubE r r') : VsubE (v :: r) (v' :: r')
theorem Vsub.refl (v : V) : Vsub v v := ⟨id, fun _ _ _ h => h⟩
theorem VsubL.refl : ∀ l : List V, VsubL l l
  | [] => .nil
  | v :: r => .cons (.refl v) (VsubL.refl r)
theorem VsubE.refl : ∀ l : List V, VsubE l l
  | [] => .nil
  | v :: r => .cons (VsubL.refl v.cells) (VsubE.refl r)
theorem VsubL.app {a a' b b' : List V} (h : VsubL a a') (k : VsubL b b') : VsubL (a ++ b) (a' ++ b') := by
  induction h with
  | nil => exact k
  | cons h _ ih => exact .cons h ih
theorem VsubL.get {a b : List V} (h : VsubL a b) : b.length = a.length ∧ ∀ (j : Nat) u, b[j]? = some u → ∃ v, a[j]? = some v ∧ Vsub v u := by
  induction h with
  | nil => exact ⟨rfl, fun j u h => by simp at h⟩
  | cons h _ ih =>
    refine ⟨by simp [ih.1], fun j u hu => ?_⟩
    cases j with
    | zero => simp only [List.getElem?_cons_zero, Option.some.injEq] at hu; subst hu; exact ⟨_, rfl, h⟩
    | succ j => exact ih.2 j u (by simpa using hu)
theorem VsubE.get {a b : List V} (h : VsubE a b) : b.length = a.length ∧ ∀ (j : Nat) u, b[j]? = some u → ∃ v, a[j]? = some v ∧ VsubL v.cells u.cells := by
  induction h with
  | nil => exact ⟨rfl, fun j u h => by simp at h⟩
  | cons h _ ih =>
    refine ⟨by simp [ih.1], fun j u hu => ?_⟩
    cases j with
    | zero => simp only [List.getElem?_cons_zero, Option.some.injEq] at hu; subst hu; exact ⟨_, rfl, h⟩
    | succ j => exact ih.2 j u (by simpa using hu)
theorem Vsub.nil (z z' : Nat) (g : Gr) : Vsub (.sl z [] g) (.sl z' [] .no) := ⟨fun _ => rfl, fun _ _ _ h => ((Veq1.nil z z' g).ok h).1⟩
theorem Vsub.no (sz : Nat) (es : List V) (g : Gr) : Vsub (.sl sz es g) (.sl sz es .no) := ⟨fun _ => rfl, fun _ _ _ h => h.noclip⟩
theorem Vsub.agg {cs ds : List V} (h : VsubL cs ds) : Vsub (.agg cs) (.agg ds) := by
  refine ⟨fun h => (by cases h), fun w S c hc => ?_⟩
  obtain ⟨a1, a2⟩ := h.get
  cases hc with
  | agg _ xs h1 hl hr =>
    refine .agg _ xs ?_ (by omega) fun j u c hu hc => ?_
    · rw [List.all_eq_true]
      intro u hu
      obtain ⟨j, hj⟩ := List.mem_iff_getElem?.1 hu
      obtain ⟨v, hv, hk⟩ := a2 j u hj
      exact hk.1 (List.all_eq_true.1 h1 v (List.mem_iff_getElem?.2 ⟨j, hv⟩))
    · obtain ⟨v, hv, hk⟩ := a2 j u hu
      exact hk.2 w S c (hr j v c hv hc)
theorem Vsub.tup {cs ds : List V} (h : VsubL cs ds) : Vsub (.tup cs) (.tup ds) := by
  refine ⟨fun h => (by cases h), fun w S c hc => ?_⟩
  obtain ⟨a1, a2⟩ := h.get
  cases hc with
  | tup _ xs hl hr =>
    refine .tup _ xs (by omega) fun j u c hu hc => ?_
    obtain ⟨v, hv, hk⟩ := a2 j u hu
    exact hk.2 w S c (hr j v c hv hc)
theorem Vsub.sl {sz : Nat} {es es' : List V} {g : Gr} (h : VsubE es es') : Vsub (.sl sz es g) (.sl sz es' .no) := by
  refine ⟨fun _ => rfl, fun w S c hc => ?_⟩
  obtain ⟨a1, a2⟩ := h.get
  cases hc with
  | sl _ _ _ a len cap cv hlen hle hmax hnul hg hsz hcell hrel =>
    refine .sl sz es' .no a len cap cv (by omega) hle hmax hnul (.inl rfl) (fun j u hu => ?_) (fun x j u k y hx hu hy => ?_) (fun j u k y hu hy => ?_)
    · obtain ⟨v, hv, hk⟩ := a2 j u hu
      rw [hk.get.1]; exact hsz j v hv
    · obtain ⟨v, hv, hk⟩ := a2 j u hu
      obtain ⟨z, hz, hs⟩ := hk.get.2 k y hy
      obtain ⟨q1, q2, q3⟩ := hcell x j v k z hx hv hz
      exact ⟨hs.1 q1, q2, q3⟩
    · obtain ⟨v, hv, hk⟩ := a2 j u hu
      obtain ⟨z, hz, hs⟩ := hk.get.2 k y hy
      exact hs.2 w S _ (hrel j v k z hv hz)
theorem VPure.sub {P : Program} {f : FuncId} {args args' : List V} {r : V} (h : VPure P f args r) (ea : VsubL args' args) : VPure P f args' r := by
  refine ⟨h.1, fun w S cargs hS hG hl hr => ?_⟩
  obtain ⟨a1, a2⟩ := ea.get
  refine h.2 w S cargs hS hG (by omega) fun j u c hu hc => ?_
  obtain ⟨v, hv, hk⟩ := a2 j u hu
  exact hk.2 w S c (hr j v c hv hc)
end Go.Vx
