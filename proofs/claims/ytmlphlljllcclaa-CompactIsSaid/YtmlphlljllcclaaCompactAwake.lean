/- The walk of the law package's example: it is true. -/
import Derived.Test.YtmlphlljllcclaaCompactBytes
namespace Go.Proofs.Ytmlphlljllcclaa
open Go.RowKit Go.Fl

theorem conv_str {w : World} {a : Option Addr} {n cap : Nat} {l : List UInt8} (hr : Rd w 1 a n cap (bc l)) : (convert 23 9 (.slice a n cap)).run Try.prog w = .ok (.string (bstr l)) w :=
  run_convert_rd 23 5 9 Try.underlying23 Try.underlying5 Try.underlying9 hr

theorem awake_any (w : World) : Calls Try.prog 8 #[] w fun e w' => e = .returned (.bool true) ∧ Below w.heap.size w w' := by
  have hget := fun (W : World) (a : Option Addr) (n cap : Nat) (hr : Rd W 1 a n cap (bc [253, 253, 0])) => compact_get a n cap [253, 253, 0] W hr
  have hg : getN [253, 253, 0] = (253, 3, 0) := by decide
  rw [hg] at hget
  have HG := Bx.mk hget
  clear hget hg
  have hput := fun (W : World) => compact_put none 0 0 [] 253 W (Rd.nil _ _) (by omega) (by omega) (by omega)
  have hp : putN (253 : Int).toNat = [253, 253, 0] := by decide
  have hsz : sizeN (253 : Int).toNat = 3 := by decide
  rw [hp, hsz, List.nil_append, Nat.zero_add] at hput
  have HP := Bx.mk hput
  have hsize := fun (W : World) => compact_size 252 W (by omega) (by omega)
  have hs2 : sizeN (252 : Int).toNat = 1 := by decide
  rw [hs2] at hsize
  have HS := Bx.mk hsize
  clear hput hp hsz hsize hs2
  go_enter Try.func8, Try.ntmps8
  go_wp2_with fail
  (with_reducible refine (HG.out _ _ _ _ (rd_lit w [253, 253, 0] #[.int .u8 253, .int .u8 253, .int .u8 0] rfl 3 rfl (by omega))).mono ?_)
  rintro e w' ⟨rfl, rfl⟩
  go_wp2_with fail
  (with_reducible refine (HP.out _).mono ?_)
  rintro e w2 ⟨a2, c2, rfl, hown, hbel⟩
  have hstr := conv_str hown.rd
  go_wp2_with (go_at_call 11; (with_reducible refine (HS.out _).mono ?_); rintro e w' ⟨rfl, rfl⟩)
  go_ret
  exact ⟨rfl, ((Below.refl _ _).alloc (Nat.le_refl _) _).trans (hbel.mono (by simp))⟩
end Go.Proofs.Ytmlphlljllcclaa
