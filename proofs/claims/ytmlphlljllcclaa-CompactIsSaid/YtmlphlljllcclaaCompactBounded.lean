/- The walk of compact.Bounded. -/
import Derived.Test.YtmlphlljllcclaaCompactGet
namespace Go.Proofs.Ytmlphlljllcclaa
open Go.RowKit Go.Fl

set_option maxHeartbeats 400000 in
theorem compact_bounded (a : Option Addr) (n cap : Nat) (l : List UInt8) (most : Int) (w : World) (hr : Rd w 1 a n cap (bc l)) (h0 : 0 ≤ most) (h1 : most < 18446744073709551616) :
    Calls Try.prog 12 #[.slice a n cap, .int .u64 most] w fun e w' => e = .returned (.tuple #[.int .i64 (boundN l most.toNat).1, .int .i64 (boundN l most.toNat).2.1, .int .i64 (boundN l most.toNat).2.2]) ∧ w = w' := by
  have hs : ∀ x y z : Nat, (x, y, z) = boundN l most.toNat → Ending.returned (.tuple #[.int .i64 (x : Int), .int .i64 (y : Int), .int .i64 (z : Int)]) = .returned (.tuple #[.int .i64 (boundN l most.toNat).1, .int .i64 (boundN l most.toNat).2.1, .int .i64 (boundN l most.toNat).2.2]) := fun x y z hm => by rw [← hm]
  have H := Bx.mk hs
  clear hs
  have HG := Bx.mk (compact_get a n cap l w hr)
  have hb := getN_bound l
  have hmax := hr.max
  have hle := hr.le
  have hlen : l.length = n := by simpa using hr.len
  unfold maxLen at hmax
  obtain ⟨x, y, z, hg⟩ : ∃ x y z, (x, y, z) = getN l := ⟨_, _, _, rfl⟩
  have E : Hid (boundN l most.toNat = if z ≠ 0 then (0, 0, z) else if min most.toNat 2147483647 < x then (0, 0, 3) else (x, y, 0)) := by
    show _ = _
    unfold boundN
    rw [← hg]
  rw [← hg] at HG hb
  dsimp only at HG hb
  have LN := Bx.mk hlen
  clear hr hg hlen
  by_cases hz : z = 0
  · subst hz
    by_cases hm : min most.toNat 2147483647 < x
    · have E' : Bx ((0, 0, 3) = boundN l most.toNat) := ⟨by rw [E.out]; simp [hm]⟩
      rcases Int.lt_or_le 2147483647 most with hq | hq
      all_goals
        go_enter Try.func12, Try.ntmps12
        go_wp2_with (go_at_call 10; refine (HG.out).mono ?_; rintro e w' ⟨rfl, rfl⟩)
        go_ret3
        exact ⟨H.out 0 0 3 E'.out, rfl⟩
    · have E' : Bx ((x, y, 0) = boundN l most.toNat) := ⟨by rw [E.out]; simp [hm]⟩
      rcases Int.lt_or_le 2147483647 most with hq | hq
      all_goals
        go_enter Try.func12, Try.ntmps12
        go_wp2_with (go_at_call 10; refine (HG.out).mono ?_; rintro e w' ⟨rfl, rfl⟩)
        go_ret3
        exact ⟨H.out x y 0 E'.out, rfl⟩
  · have E' : Bx ((0, 0, z) = boundN l most.toNat) := ⟨by rw [E.out, if_pos hz]⟩
    have hz' : ((z : Int) != 0) = true := by simpa using (by omega : ¬ (z : Int) = 0)
    go_enter Try.func12, Try.ntmps12
    go_wp2_with (go_at_call 10; refine (HG.out).mono ?_; rintro e w' ⟨rfl, rfl⟩)
    go_ret3
    exact ⟨H.out 0 0 z E'.out, rfl⟩

end Go.Proofs.Ytmlphlljllcclaa
