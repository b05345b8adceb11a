/- The walks of the compact package's functions: each computes what the plain functions of CompactSpec say. -/
import Derived.Test.YtmlphlljllcclaaProg
import Derived.Test.YtmlphlljllcclaaLib
import Derived.Test.YtmlphlljllcclaaCompactSpec
import Derived.Lib.Hide
import Derived.WalkSpells
namespace Go.Proofs.Ytmlphlljllcclaa
open Go.RowKit Go.Fl

theorem compact_size (n : Int) (w : World) (h0 : 0 ≤ n) (h1 : n < 18446744073709551616) : Calls Try.prog 11 #[.int .u64 n] w fun e w' => e = .returned (.int .i64 (sizeN n.toNat)) ∧ w = w' := by
  have hs : ∀ m, m = sizeN n.toNat → Ending.returned (.int .i64 (m : Int)) = .returned (.int .i64 (sizeN n.toNat)) := fun m hm => by rw [hm]
  have H := Bx.mk hs
  clear hs
  have hc := sizeN_cases n.toNat
  rcases hc with ⟨h, e⟩ | ⟨h, h', e⟩ | ⟨h, h', e⟩ | ⟨h, e⟩
  all_goals
    have E := Bx.mk e
    clear e
    go_enter Try.func11, Try.ntmps11
    go_wp2
    go_ret
    refine ⟨H.out _ E.out.symm, rfl⟩

theorem compact_lead (n : Nat) (w : World) : Calls Try.prog 20 #[.int .i64 n] w fun e w' => e = .returned (.int .u8 (leadN n)) ∧ w = w' := by
  have hs : ∀ m : Nat, m = leadN n → Ending.returned (.int .u8 (m : Int)) = .returned (.int .u8 (leadN n)) := fun m hm => by rw [hm]
  have H := Bx.mk hs
  clear hs
  by_cases h3 : n = 3
  · subst h3
    go_enter Try.func20, Try.ntmps20
    go_wp2
    go_ret
    exact ⟨H.out 253 (by simp [leadN]), rfl⟩
  by_cases h5 : n = 5
  · subst h5
    go_enter Try.func20, Try.ntmps20
    go_wp2
    go_ret
    exact ⟨H.out 254 (by simp [leadN]), rfl⟩
  have E : Hid (255 = leadN n) := by
    show 255 = leadN n
    unfold leadN
    rw [if_neg h3, if_neg h5]
  have h3' : ((n : Int) == 3) = false := by simpa using (by omega : ¬ (n : Int) = 3)
  have h5' : ((n : Int) == 5) = false := by simpa using (by omega : ¬ (n : Int) = 5)
  go_enter Try.func20, Try.ntmps20
  go_wp2
  go_ret
  exact ⟨H.out 255 E.out, rfl⟩

theorem compact_behind (c : Nat) (w : World) : Calls Try.prog 21 #[.int .u8 c] w fun e w' => e = .returned (.int .i64 (behindN c)) ∧ w = w' := by
  have hs : ∀ m : Nat, m = behindN c → Ending.returned (.int .i64 (m : Int)) = .returned (.int .i64 (behindN c)) := fun m hm => by rw [hm]
  have H := Bx.mk hs
  clear hs
  by_cases h3 : c = 253
  · subst h3
    go_enter Try.func21, Try.ntmps21
    go_wp2
    go_ret
    exact ⟨H.out 2 (by simp [behindN]), rfl⟩
  by_cases h4 : c = 254
  · subst h4
    go_enter Try.func21, Try.ntmps21
    go_wp2
    go_ret
    exact ⟨H.out 4 (by simp [behindN]), rfl⟩
  by_cases h5 : c = 255
  · subst h5
    go_enter Try.func21, Try.ntmps21
    go_wp2
    go_ret
    exact ⟨H.out 8 (by simp [behindN]), rfl⟩
  have E : Hid (0 = behindN c) := by
    show 0 = behindN c
    unfold behindN
    rw [if_neg h3, if_neg h4, if_neg h5]
  have h3' : ((c : Int) == 253) = false := by simpa using (by omega : ¬ (c : Int) = 253)
  have h4' : ((c : Int) == 254) = false := by simpa using (by omega : ¬ (c : Int) = 254)
  have h5' : ((c : Int) == 255) = false := by simpa using (by omega : ¬ (c : Int) = 255)
  go_enter Try.func21, Try.ntmps21
  go_wp2
  go_ret
  exact ⟨H.out 0 E.out, rfl⟩

end Go.Proofs.Ytmlphlljllcclaa
