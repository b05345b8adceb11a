/- The walk of compact.Bytes. -/
import Derived.Test.YtmlphlljllcclaaCompactPut
namespace Go.Proofs.Ytmlphlljllcclaa
open Go.RowKit Go.Fl

theorem boundN_bound (l : List UInt8) (most : Nat) : (boundN l most).1 ≤ 2147483647 ∧ (boundN l most).2.1 ≤ l.length ∧ (boundN l most).2.2 ≤ 3 := by
  have := getN_bound l
  unfold boundN
  split
  · simp; omega
  · split
    · simp
    · simp; omega

set_option maxHeartbeats 1000000 in
/-- What is taken is a new row of one's own (nil where nothing is). -/
theorem compact_bytes (a : Option Addr) (n cap : Nat) (l : List UInt8) (most : Int) (w : World) (hr : Rd w 1 a n cap (bc l)) (h0 : -9223372036854775808 ≤ most) (h1 : most < 9223372036854775808) (hn : n ≤ 70368744177664) :
    Calls Try.prog 15 #[.slice a n cap, .int .i64 most] w fun e w' => ∃ a' cap', e = .returned (.tuple #[.slice a' (bytesN l most).1.length cap', .int .i64 (bytesN l most).2.1, .int .i64 (bytesN l most).2.2]) ∧
      Own w' w.heap.size 5 1 a' (bytesN l most).1.length cap' (bc (bytesN l most).1) ∧ Below w.heap.size w w' := by
  have hs : ∀ (v : Value) (y z : Nat) (w' : World) (a' : Option Addr) (cap' : Nat) (xs : List UInt8), (xs, y, z) = bytesN l most → v = .slice a' xs.length cap' → Own w' w.heap.size 5 1 a' xs.length cap' (bc xs) → Below w.heap.size w w' →
      ∃ a' cap', Ending.returned (.tuple #[v, .int .i64 (y : Int), .int .i64 (z : Int)]) = .returned (.tuple #[.slice a' (bytesN l most).1.length cap', .int .i64 (bytesN l most).2.1, .int .i64 (bytesN l most).2.2]) ∧
      Own w' w.heap.size 5 1 a' (bytesN l most).1.length cap' (bc (bytesN l most).1) ∧ Below w.heap.size w w' := fun v y z w' a' cap' xs hm hv ho hb => by
    subst hv
    rw [← hm]
    exact ⟨a', cap', rfl, ho, hb⟩
  have H := Bx.mk hs
  clear hs
  have hb := boundN_bound l most.toNat
  have hm0 : (most.toNat : Int) = if most < 0 then 0 else most := by split <;> omega
  have HB := Bx.mk (fun h => compact_bounded a n cap l (most.toNat : Int) w hr (by omega) h)
  rw [Int.toNat_natCast] at HB
  have hmax := hr.max
  have hle := hr.le
  have hlen : l.length = n := by simpa using hr.len
  unfold maxLen at hmax
  obtain ⟨x, y, z, hg⟩ : ∃ x y z, (x, y, z) = boundN l most.toNat := ⟨_, _, _, rfl⟩
  have E : Bx (bytesN l most = if z ≠ 0 then ([], 0, z) else if most < 0 then ([], 0, 3) else if l.length < y + x then ([], 0, 1) else ((l.drop y).take x, y + x, 0)) := ⟨by
    unfold bytesN
    rw [← hg]⟩
  rw [← hg] at HB hb
  dsimp only at HB hb
  have HM : Bx (most < 9223372036854775808) := ⟨h1⟩
  have RD := Bx.mk hr
  have LN := Bx.mk hlen
  clear hg hr h1 h0
  by_cases hneg : most < 0
  · rw [if_pos hneg] at hm0
    rw [hm0] at HB
    have HB' := Bx.mk (HB.out (by omega))
    clear HB hm0 HM
    by_cases hz : z = 0
    · subst hz
      have E' : Bx (([], 0, 3) = bytesN l most) := ⟨by rw [E.out]; simp [hneg]⟩
      go_enter Try.func15, Try.ntmps15
      go_wp2_with (go_at_call 12; (with_reducible refine (HB'.out).mono ?_); rintro e w' ⟨rfl, rfl⟩)
      go_ret3
      exact H.out _ 0 3 _ none 0 [] E'.out rfl (Own.nil _ _ _ _) (Below.refl _ _)
    · have E' : Bx (([], 0, z) = bytesN l most) := ⟨by rw [E.out, if_pos hz]⟩
      have hz' : ((z : Int) != 0) = true := by simpa using (by omega : ¬ (z : Int) = 0)
      go_enter Try.func15, Try.ntmps15
      go_wp2_with (go_at_call 12; (with_reducible refine (HB'.out).mono ?_); rintro e w' ⟨rfl, rfl⟩)
      go_ret3
      exact H.out _ 0 z _ none 0 [] E'.out rfl (Own.nil _ _ _ _) (Below.refl _ _)
  · rw [if_neg hneg] at hm0
    rw [hm0] at HB
    have HB' := Bx.mk (HB.out (by have := HM.out; omega))
    have hw : IntKind.u64.wrap most = most := IntWalk.u64_in _ (by have := HM.out; omega)
    clear HB hm0
    by_cases hz : z = 0
    · subst hz
      by_cases hsh : l.length < y + x
      · have E' : Bx (([], 0, 1) = bytesN l most) := ⟨by rw [E.out]; simp [hneg, hsh]⟩
        rw [LN.out] at hsh hb
        go_enter Try.func15, Try.ntmps15
        go_wp2_with (first
          | (go_at_call 12; (with_reducible refine (HB'.out).mono ?_); rintro e w' ⟨rfl, rfl⟩))
        go_ret3
        exact H.out _ 0 1 _ none 0 [] E'.out rfl (Own.nil _ _ _ _) (Below.refl _ _)
      · have E' : Bx (((l.drop y).take x, y + x, 0) = bytesN l most) := ⟨by rw [E.out]; simp [hneg, hsh]⟩
        rw [LN.out] at hsh hb
        obtain ⟨a2, c2, hsl, hR⟩ := sl_lh RD.out (y : Int) ((y : Int) + x) y x rfl rfl (by omega)
        have R2 := Bx.mk hR
        clear hR
        go_enter Try.func15, Try.ntmps15
        go_wp2_with (first
          | (go_at_call 12; (with_reducible refine (HB'.out).mono ?_); rintro e w' ⟨rfl, rfl⟩)
          | (go_at_call 19; (with_reducible refine (bytes_clone _ _ _ _ _ R2.out (by omega)).mono ?_); rintro e w' ⟨a3, c3, rfl, hown, hbel⟩))
        go_ret3
        exact H.out _ (y + x) 0 _ a3 c3 _ E'.out (by congr 1; simp; omega) (by
          rw [show ((l.drop y).take x).length = x by simp; omega]
          exact hown) hbel
    · have E' : Bx (([], 0, z) = bytesN l most) := ⟨by rw [E.out, if_pos hz]⟩
      have hz' : ((z : Int) != 0) = true := by simpa using (by omega : ¬ (z : Int) = 0)
      go_enter Try.func15, Try.ntmps15
      go_wp2_with (go_at_call 12; (with_reducible refine (HB'.out).mono ?_); rintro e w' ⟨rfl, rfl⟩)
      go_ret3
      exact H.out _ 0 z _ none 0 [] E'.out rfl (Own.nil _ _ _ _) (Below.refl _ _)
end Go.Proofs.Ytmlphlljllcclaa
