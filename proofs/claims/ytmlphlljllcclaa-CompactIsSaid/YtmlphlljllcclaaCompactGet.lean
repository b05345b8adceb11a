/- The walk of compact.Get and compact.Bounded. -/
import Derived.Test.YtmlphlljllcclaaCompactWalk
namespace Go.Proofs.Ytmlphlljllcclaa
open Go.RowKit Go.Fl

theorem or_shift (n c : Nat) (hc : c < 256) : (n * 256) ||| c = n * 256 + c := by
  have h := Nat.shiftLeft_add_eq_or_of_lt (i := 8) (b := c) (by omega) n
  rw [Nat.shiftLeft_eq] at h
  simp only [Nat.reducePow] at h
  omega

set_option maxHeartbeats 400000 in
theorem compact_get (a : Option Addr) (n cap : Nat) (l : List UInt8) (w : World) (hr : Rd w 1 a n cap (bc l)) :
    Calls Try.prog 10 #[.slice a n cap] w fun e w' => e = .returned (.tuple #[.int .u64 (getN l).1, .int .i64 (getN l).2.1, .int .i64 (getN l).2.2]) ∧ w = w' := by
  have hs : ∀ x y z : Nat, (x, y, z) = getN l → Ending.returned (.tuple #[.int .u64 (x : Int), .int .i64 (y : Int), .int .i64 (z : Int)]) = .returned (.tuple #[.int .u64 (getN l).1, .int .i64 (getN l).2.1, .int .i64 (getN l).2.2]) := fun x y z hm => by rw [← hm]
  have H := Bx.mk hs
  clear hs
  have hmax := hr.max
  have hle := hr.le
  have hlen : l.length = n := by simpa using hr.len
  unfold maxLen at hmax
  cases l with
  | nil =>
    obtain rfl : n = 0 := by simpa using hlen.symm
    have E : Bx ((0, 0, 1) = getN []) := ⟨rfl⟩
    clear hr
    go_enter Try.func10, Try.ntmps10
    go_wp2
    go_ret3
    exact ⟨H.out 0 0 1 E.out, rfl⟩
  | cons c r =>
    have hn : r.length + 1 = n := by simpa using hlen
    obtain ⟨b, off, rfl, _⟩ := hr.addr (by omega) (by decide)
    have hcell := hr.byte
    have hc0 : w.cell? ⟨b, off, none⟩ = some (.int .u8 (c.toNat : Int)) := hcell 0 (by simp)
    have hb8 := behind_le c.toNat
    have hc256 := c.toNat_lt
    have hnz : ((n : Int) == 0) = false := by simpa using (by omega : ¬ (n : Int) = 0)
    have HC := Bx.mk hcell
    clear hcell hr hlen
    by_cases hk0 : behindN c.toNat = 0
    · have E : Bx ((c.toNat, 1, 0) = getN (c :: r)) := ⟨by simp [getN, hk0]⟩
      have hz : (((behindN c.toNat : Nat) : Int) == 0) = true := by simpa using hk0
      clear hk0
      go_enter Try.func10, Try.ntmps10
      go_wp2_with (go_at_call 21; refine (compact_behind _ _).mono ?_; rintro e w' ⟨rfl, rfl⟩)
      go_ret3
      exact ⟨H.out _ 1 0 E.out, rfl⟩
    · have hz : (((behindN c.toNat : Nat) : Int) == 0) = false := by simpa using (by omega : ¬ ((behindN c.toNat : Nat) : Int) = 0)
      by_cases hsh : r.length < behindN c.toNat
      · have E : Bx ((0, 0, 1) = getN (c :: r)) := ⟨by simp [getN, hk0, hsh]⟩
        clear hk0
        go_enter Try.func10, Try.ntmps10
        go_wp2_with (go_at_call 21; refine (compact_behind _ _).mono ?_; rintro e w' ⟨rfl, rfl⟩)
        go_ret3
        exact ⟨H.out 0 0 1 E.out, rfl⟩
      · generalize hkk : behindN c.toNat = k at *
        have KK := Bx.mk hkk
        clear hkk
        go_enter Try.func10, Try.ntmps10
        go_wp2_with (go_at_call 21; refine (compact_behind _ _).mono ?_; rintro e w' ⟨rfl, rfl⟩; rw [KK.out])
        go_loop [6, 7] (fun m i => ∃ j : Nat, j ≤ k ∧ i = .int .i64 j ∧ m = .int .u64 (leVal ((r.drop j).take (k - j)))) (fun _ i => (intOf i).toNat)
        case atStart => exact ⟨k, Nat.le_refl _, rfl, by simp [leVal]⟩
        case round =>
          obtain ⟨j, hj, rfl, rfl⟩ := hrel
          by_cases hj0 : 0 < j
          · have hlt := leVal_lt ((r.drop j).take (k - j))
            have hcj : w.cell? ⟨b, off + j, none⟩ = some (.int .u8 ((r[j - 1]'(by omega)).toNat : Int)) := by
              obtain ⟨i, rfl⟩ : ∃ i, j = i + 1 := ⟨j - 1, by omega⟩
              exact HC.out (i + 1) (by simp; omega)
            have hstep : leVal ((r.drop (j - 1)).take (k - (j - 1))) = (r[j - 1]'(by omega)).toNat + 256 * leVal ((r.drop j).take (k - j)) := by
              obtain ⟨i, rfl⟩ : ∃ i, j = i + 1 := ⟨j - 1, by omega⟩
              simp only [Nat.add_sub_cancel]
              rw [List.drop_eq_getElem_cons (by omega : i < r.length), show k - i = (k - (i + 1)) + 1 by omega, List.take_succ_cons, leVal]
            have hb : ((r.drop j).take (k - j)).length ≤ 7 := by simp; omega
            have hlt2 : leVal ((r.drop j).take (k - j)) < 72057594037927936 := Nat.lt_of_lt_of_le hlt (by
              have : 256 ^ ((r.drop j).take (k - j)).length ≤ 256 ^ 7 := Nat.pow_le_pow_right (by omega) hb
              simpa using this)
            clear hlt hb
            generalize leVal ((r.drop j).take (k - j)) = m at *
            have hd256 := (r[j - 1]'(by omega)).toNat_lt
            generalize (r[j - 1]'(by omega)).toNat = d at *
            have HS := Bx.mk hstep
            clear hstep
            have hor : bits .or .u64 ((m : Int) * 256) (d : Int) = ((m * 256 + d : Nat) : Int) := by
              rw [show (m : Int) * 256 = ((m * 256 : Nat) : Int) by omega, u64_or_nat _ _ (by omega) (by omega), or_shift _ _ (by omega)]
            have HO := Bx.mk hor
            clear hor
            go_wp2
            go_round
            case rel => exact ⟨j - 1, by omega, by congr 1; omega, by rw [HO.out, HS.out, Nat.add_comm, Nat.mul_comm]⟩
            case measure => simp [intOf]; omega
          · obtain rfl : j = 0 := by omega
            have hlt := leVal_lt (r.take k)
            have hl8 : (r.take k).length = k := by rw [List.length_take]; omega
            have hlt2 : leVal (r.take k) < 18446744073709551616 := Nat.lt_of_lt_of_le hlt (by
              have : 256 ^ (r.take k).length ≤ 256 ^ 8 := Nat.pow_le_pow_right (by omega) (by omega)
              simpa using this)
            simp only [List.drop_zero, Nat.sub_zero]
            by_cases hsz : sizeN (leVal (r.take k)) = k + 1
            · have E : Bx ((leVal (r.take k), k + 1, 0) = getN (c :: r)) := ⟨by simp [getN, KK.out, hk0, hsh, hsz]⟩
              have hz2 : (((sizeN (leVal (r.take k)) : Nat) : Int) != (k : Int) + 1) = false := by rw [hsz]; simp
              generalize leVal (r.take k) = m at *
              clear hsz hlt hl8
              go_wp2_with (go_at_call 11; refine (compact_size _ _ (by omega) (by omega)).mono ?_; rintro e w' ⟨rfl, rfl⟩; rw [Int.toNat_natCast])
              go_ret3
              exact ⟨H.out m (k + 1) 0 E.out, rfl⟩
            · have E : Bx ((0, 0, 2) = getN (c :: r)) := ⟨by simp [getN, KK.out, hk0, hsh, hsz]⟩
              have hz2 : (((sizeN (leVal (r.take k)) : Nat) : Int) != (k : Int) + 1) = true := by simp; omega
              generalize leVal (r.take k) = m at *
              clear hsz hlt hl8
              go_wp2_with (go_at_call 11; refine (compact_size _ _ (by omega) (by omega)).mono ?_; rintro e w' ⟨rfl, rfl⟩; rw [Int.toNat_natCast])
              go_ret3
              exact ⟨H.out 0 0 2 E.out, rfl⟩
end Go.Proofs.Ytmlphlljllcclaa
