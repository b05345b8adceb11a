/- The walks of the document's answer for compact numbers, bounded and with bytes. -/
import Derived.Test.YtmlphlljllcclaaCompactRef
namespace Go.Proofs.Ytmlphlljllcclaa
open Go.RowKit Go.Fl
set_option linter.unusedSimpArgs false
set_option linter.unusedVariables false

set_option maxHeartbeats 400000 in
theorem ref_bounded (a : Option Addr) (n cap : Nat) (l : List UInt8) (most : Int) (w : World) (hr : Rd w 1 a n cap (bc l)) (h0 : 0 ≤ most) (h1 : most < 18446744073709551616) :
    Calls Try.prog 14 #[.slice a n cap, .int .u64 most] w fun e w' => e = .returned (.tuple #[.int .i64 (boundN l most.toNat).1, .int .i64 (boundN l most.toNat).2.1, .int .i64 (boundN l most.toNat).2.2]) ∧ w = w' := by
  have hs : ∀ x y z : Nat, (x, y, z) = boundN l most.toNat → Ending.returned (.tuple #[.int .i64 (x : Int), .int .i64 (y : Int), .int .i64 (z : Int)]) = .returned (.tuple #[.int .i64 (boundN l most.toNat).1, .int .i64 (boundN l most.toNat).2.1, .int .i64 (boundN l most.toNat).2.2]) := fun x y z hm => by rw [← hm]
  have H := Bx.mk hs
  clear hs
  have HG := Bx.mk (ref_get a n cap l w hr)
  have hb := getN_bound l
  have hmax := hr.max
  have hle := hr.le
  have hlen : l.length = n := by simpa using hr.len
  unfold maxLen at hmax
  obtain ⟨x, y, z, hg⟩ : ∃ x y z, (x, y, z) = getN l := ⟨_, _, _, rfl⟩
  have E : Hid (boundN l most.toNat = if z ≠ 0 then (0, 0, z) else if min most.toNat 2147483647 < x then (0, 0, 3) else (x, y, 0)) := by
    show _ = _
    unfold boundN
    rw [← hg]
  rw [← hg] at HG hb
  dsimp only at HG hb
  have LN := Bx.mk hlen
  clear hr hg hlen
  by_cases hz : z = 0
  · subst hz
    by_cases hm : min most.toNat 2147483647 < x
    · have E' : Bx ((0, 0, 3) = boundN l most.toNat) := ⟨by rw [E.out]; simp [hm]⟩
      rcases Int.lt_or_le most x with hq | hq
      · have hd : decide (most < (x : Int)) = true := by simpa using hq
        clear h1 hm hb
        go_enter Try.func14, Try.ntmps14
        go_wp2_with (go_at_call 13; (with_reducible refine (HG.out).mono ?_); rintro e w' ⟨rfl, rfl⟩)
        go_ret3
        exact ⟨H.out 0 0 3 E'.out, rfl⟩
      · have hd : decide (most < (x : Int)) = false := by simp; omega
        have hd2 : True → decide (2147483647 < (x : Int)) = true := fun _ => by simp; omega
        clear h1 hm hb
        go_enter Try.func14, Try.ntmps14
        go_wp2_with (go_at_call 13; (with_reducible refine (HG.out).mono ?_); rintro e w' ⟨rfl, rfl⟩)
        go_ret3
        exact ⟨H.out 0 0 3 E'.out, rfl⟩
    · have E' : Bx ((x, y, 0) = boundN l most.toNat) := ⟨by rw [E.out]; simp [hm]⟩
      have hd : decide (most < (x : Int)) = false := by simp; omega
      have hd2 : True → decide (2147483647 < (x : Int)) = false := fun _ => by simp; omega
      have hd3 : x ≤ 2147483647 := by omega
      clear h1 hm hb
      go_enter Try.func14, Try.ntmps14
      go_wp2_with (go_at_call 13; (with_reducible refine (HG.out).mono ?_); rintro e w' ⟨rfl, rfl⟩)
      go_ret3
      exact ⟨H.out x y 0 E'.out, rfl⟩
  · have E' : Bx ((0, 0, z) = boundN l most.toNat) := ⟨by rw [E.out, if_pos hz]⟩
    have hz' : ((z : Int) != 0) = true := by simpa using (by omega : ¬ (z : Int) = 0)
    go_enter Try.func14, Try.ntmps14
    go_wp2_with (go_at_call 13; refine (HG.out).mono ?_; rintro e w' ⟨rfl, rfl⟩)
    go_ret3
    exact ⟨H.out 0 0 z E'.out, rfl⟩

set_option maxHeartbeats 1000000 in
/-- What is taken is a new row of one's own (nil where nothing is). -/
theorem ref_bytes (a : Option Addr) (n cap : Nat) (l : List UInt8) (most : Int) (w : World) (hr : Rd w 1 a n cap (bc l)) (h0 : -9223372036854775808 ≤ most) (h1 : most < 9223372036854775808) (hn : n ≤ 70368744177664) :
    Calls Try.prog 16 #[.slice a n cap, .int .i64 most] w fun e w' => ∃ a' cap', e = .returned (.tuple #[.slice a' (bytesN l most).1.length cap', .int .i64 (bytesN l most).2.1, .int .i64 (bytesN l most).2.2]) ∧
      Own w' w.heap.size 5 1 a' (bytesN l most).1.length cap' (bc (bytesN l most).1) ∧ Below w.heap.size w w' := by
  have hs : ∀ (v : Value) (y z : Nat) (w' : World) (a' : Option Addr) (cap' : Nat) (xs : List UInt8), (xs, y, z) = bytesN l most → v = .slice a' xs.length cap' → Own w' w.heap.size 5 1 a' xs.length cap' (bc xs) → Below w.heap.size w w' →
      ∃ a' cap', Ending.returned (.tuple #[v, .int .i64 (y : Int), .int .i64 (z : Int)]) = .returned (.tuple #[.slice a' (bytesN l most).1.length cap', .int .i64 (bytesN l most).2.1, .int .i64 (bytesN l most).2.2]) ∧
      Own w' w.heap.size 5 1 a' (bytesN l most).1.length cap' (bc (bytesN l most).1) ∧ Below w.heap.size w w' := fun v y z w' a' cap' xs hm hv ho hb => by
    subst hv
    rw [← hm]
    exact ⟨a', cap', rfl, ho, hb⟩
  have H := Bx.mk hs
  clear hs
  have hb := boundN_bound l most.toNat
  have hm0 : (most.toNat : Int) = if most < 0 then 0 else most := by split <;> omega
  have HB := Bx.mk (fun h => ref_bounded a n cap l (most.toNat : Int) w hr (by omega) h)
  rw [Int.toNat_natCast] at HB
  have hmax := hr.max
  have hle := hr.le
  have hlen : l.length = n := by simpa using hr.len
  unfold maxLen at hmax
  obtain ⟨x, y, z, hg⟩ : ∃ x y z, (x, y, z) = boundN l most.toNat := ⟨_, _, _, rfl⟩
  have E : Bx (bytesN l most = if z ≠ 0 then ([], 0, z) else if most < 0 then ([], 0, 3) else if l.length < y + x then ([], 0, 1) else ((l.drop y).take x, y + x, 0)) := ⟨by
    unfold bytesN
    rw [← hg]⟩
  rw [← hg] at HB hb
  dsimp only at HB hb
  have HM : Bx (most < 9223372036854775808) := ⟨h1⟩
  have RD := Bx.mk hr
  have LN := Bx.mk hlen
  clear hg hr h1 h0
  by_cases hneg : most < 0
  · rw [if_pos hneg] at hm0
    rw [hm0] at HB
    have HB' := Bx.mk (HB.out (by omega))
    clear HB hm0 HM
    by_cases hz : z = 0
    · subst hz
      have E' : Bx (([], 0, 3) = bytesN l most) := ⟨by rw [E.out]; simp [hneg]⟩
      go_enter Try.func16, Try.ntmps16
      go_wp2_with (go_at_call 14; (with_reducible refine (HB'.out).mono ?_); rintro e w' ⟨rfl, rfl⟩)
      go_ret3
      exact H.out _ 0 3 _ none 0 [] E'.out rfl (Own.nil _ _ _ _) (Below.refl _ _)
    · have E' : Bx (([], 0, z) = bytesN l most) := ⟨by rw [E.out, if_pos hz]⟩
      have hz' : ((z : Int) != 0) = true := by simpa using (by omega : ¬ (z : Int) = 0)
      go_enter Try.func16, Try.ntmps16
      go_wp2_with (go_at_call 14; (with_reducible refine (HB'.out).mono ?_); rintro e w' ⟨rfl, rfl⟩)
      go_ret3
      exact H.out _ 0 z _ none 0 [] E'.out rfl (Own.nil _ _ _ _) (Below.refl _ _)
  · rw [if_neg hneg] at hm0
    rw [hm0] at HB
    have HB' := Bx.mk (HB.out (by have := HM.out; omega))
    have hw : IntKind.u64.wrap most = most := IntWalk.u64_in _ (by have := HM.out; omega)
    clear HB hm0
    by_cases hz : z = 0
    · subst hz
      by_cases hsh : l.length < y + x
      · have E' : Bx (([], 0, 1) = bytesN l most) := ⟨by rw [E.out]; simp [hneg, hsh]⟩
        rw [LN.out] at hsh hb
        go_enter Try.func16, Try.ntmps16
        go_wp2_with (first
          | (go_at_call 14; (with_reducible refine (HB'.out).mono ?_); rintro e w' ⟨rfl, rfl⟩))
        go_ret3
        exact H.out _ 0 1 _ none 0 [] E'.out rfl (Own.nil _ _ _ _) (Below.refl _ _)
      · have E' : Bx (((l.drop y).take x, y + x, 0) = bytesN l most) := ⟨by rw [E.out]; simp [hneg, hsh]⟩
        rw [LN.out] at hsh hb
        obtain ⟨a2, c2, hsl, hR⟩ := sl_lh RD.out (y : Int) ((y : Int) + x) y x rfl rfl (by omega)
        have R2 := Bx.mk hR
        clear hR
        go_enter Try.func16, Try.ntmps16
        go_wp2_with (first
          | (go_at_call 14; (with_reducible refine (HB'.out).mono ?_); rintro e w' ⟨rfl, rfl⟩)
          | (at_builtin; refine app_bytes rfl _ _ rfl w.heap.size _ _ _ [] rfl (own_lit w w.heap.size [] #[] rfl 0 rfl (by omega) (Nat.le_refl _)) _ _ _ ((l.drop y).take x) rfl (R2.out.alloc _) (by omega) (by simp) ?_; rintro a3 c3 w3 hown hg))
        have hbel := (own_lit w w.heap.size [] #[] rfl 0 rfl (by omega) (Nat.le_refl _)).below ((Below.refl w.heap.size w).alloc (Nat.le_refl _) (.cells #[] 5)) (by simp) hg
        simp only [Nat.zero_add, List.nil_append] at hown
        go_ret3
        exact H.out _ (y + x) 0 _ a3 c3 _ E'.out (by congr 1; simp; omega) (by
          rw [show ((l.drop y).take x).length = x by simp; omega]
          exact hown) hbel
    · have E' : Bx (([], 0, z) = bytesN l most) := ⟨by rw [E.out, if_pos hz]⟩
      have hz' : ((z : Int) != 0) = true := by simpa using (by omega : ¬ (z : Int) = 0)
      go_enter Try.func16, Try.ntmps16
      go_wp2_with (go_at_call 14; (with_reducible refine (HB'.out).mono ?_); rintro e w' ⟨rfl, rfl⟩)
      go_ret3
      exact H.out _ 0 z _ none 0 [] E'.out rfl (Own.nil _ _ _ _) (Below.refl _ _)
end Go.Proofs.Ytmlphlljllcclaa
