/- What the laid variables give: strings.asciiSpace's cells. -/
import Derived.Test.YtlcdehedojkgoaaDoorRows
import Derived.Test.YtlcdehedojkgoaaDoorV12
import Derived.OpenShut
import Derived.FnData
import Derived.ChangeArms
import Derived.LaidMore
import Derived.MakeChecks
import Derived.LaidHandle
namespace Go.Proofs.YtlcdehedojkgoaaDoor
open Go.Vx Go.ChangeShapes
set_option maxRecDepth 100000

def laidL : List (String × DataW Unit) := [("unicode.White_Space", Rows.laid_unicode_White_Space), ("strings.asciiSpace", Rows.laid_strings_asciiSpace)]
theorem gSp : Tryd.prog.globalNamed "strings.asciiSpace" = some 0 := by kernel_rfl
theorem tSp : (Tryd.prog.globals[0]?).map (·.type) = some 52 := by kernel_rfl
theorem uSp : Tryd.prog.underlying 52 = some (.array 256 5) := by kernel_rfl
theorem uBy : Tryd.prog.underlying 5 = some (.int .u8) := by kernel_rfl
theorem laidSp : (Rows.laid_strings_asciiSpace : DataW Unit) = .agg ((List.range 256).map fun i => .lit (.int .u8 (if i = 32 ∨ (9 ≤ i ∧ i ≤ 13) then 1 else 0))) := by kernel_rfl

theorem gok {w : World} (h : laidMetH Tryd.prog laidL w) : GOk w (fun _ => True) := by
  rw [MakeChecks.laidMetH_plain _ _ _ (by kernel_rfl)] at h
  obtain ⟨ps, ⟨g0, t0, cs0, f0, p0, q0, hg0, ht0, hv0, hd0, ⟨g1, t1, cs1, f1, p1, q1, hg1, ht1, hv1, hd1, _, _⟩, _⟩, _, _⟩ := h
  obtain rfl := Option.some.inj (gSp.symm.trans hg1)
  obtain rfl := Option.some.inj (tSp.symm.trans ht1)
  obtain ⟨xs, m1, rfl, hx1, hlen, hn, hel⟩ := DataW.trod_array uSp hd1
  rw [laidSp] at hx1
  simp only [Prod.mk.injEq, DataW.agg.injEq] at hx1
  have c1 : Tryd.prog.cellsOf 5 = 1 := by kernel_rfl
  have cell : ∀ k, k < 256 → w.cell? ⟨0, k, none⟩ = some (.int .u8 (if k = 32 ∨ (9 ≤ k ∧ k ≤ 13) then 1 else 0)) := fun k hk => by
    have e := hel k hk
    have hk' : k < xs.length := by omega
    rw [c1, Nat.mul_one, List.getElem?_eq_getElem hk'] at e
    obtain ⟨n, e1, e2, _⟩ := DataW.trod_int uBy e
    have e3 : (xs.map (·.1))[k]? = some (.lit (.int .u8 n)) := by rw [List.getElem?_map, List.getElem?_eq_getElem hk', e2]; rfl
    rw [← hx1.1, List.getElem?_map, List.getElem?_range hk] at e3
    simp only [Option.map_some, Option.some.injEq, DataW.lit.injEq, Lit.int.injEq, true_and] at e3
    have e4 := World.var?_cell hg1 hv1 k
    have e5 : cs1[k]? = some (.int .u8 n) := by
      have : (cs1.toList.drop k).take 1 = [.int .u8 n] := e1
      have h6 : ((cs1.toList.drop k).take 1)[0]? = some (.int .u8 n) := by rw [this]; rfl
      rw [List.getElem?_take_of_lt (by omega), List.getElem?_drop] at h6
      simpa using h6
    rw [e4, e5, e3]
  intro g cs hg
  unfold gl at hg
  split at hg
  · rename_i hgg
    subst hgg
    obtain rfl := Option.some.inj hg
    refine .rp _ _ (fun k => .int .u8 (if k = 32 ∨ (9 ≤ k ∧ k ≤ 13) then 1 else 0)) (fun k u hu => ?_) (fun k u hu => ?_)
    · unfold spaceTab at hu
      rw [List.getElem?_map] at hu
      cases hr : (List.range 256)[k]? with
      | none => rw [hr] at hu; cases hu
      | some i =>
        rw [hr] at hu
        obtain ⟨hk, hi⟩ := List.getElem?_eq_some_iff.1 hr
        rw [List.length_range] at hk
        simp only [Option.map_some, Option.some.injEq] at hu
        subst hu
        refine ⟨rfl, trivial, ?_⟩
        have := cell k hk
        have e0 : (⟨0, 0, none⟩ : Addr).add k = ⟨0, k, none⟩ := by
          by_cases h0 : k = 0 <;> simp [Addr.add, h0]
        rw [e0]; exact this
    · unfold spaceTab at hu
      rw [List.getElem?_map] at hu
      cases hr : (List.range 256)[k]? with
      | none => rw [hr] at hu; cases hu
      | some i =>
        rw [hr] at hu
        obtain ⟨hk, hi⟩ := List.getElem?_eq_some_iff.1 hr
        rw [List.getElem_range] at hi
        subst hi
        simp only [Option.map_some, Option.some.injEq] at hu
        subst hu
        exact .i _ _
  · cases hg
end Go.Proofs.YtlcdehedojkgoaaDoor
