/- The walk of compact.Put. -/
import Derived.Test.YtmlphlljllcclaaCompactBounded
import Derived.Test.YtmlphlljllcclaaBytes
namespace Go.Proofs.Ytmlphlljllcclaa
open Go.RowKit Go.Fl

theorem u8_ofNat (m : Nat) (n : Int) (h : n = (m : Int) % 256) : ([.int .u8 n] : List Value) = bc [UInt8.ofNat m] := by
  subst h
  simp [bc]

set_option maxHeartbeats 800000 in
theorem compact_put (a : Option Addr) (n cap : Nat) (l : List UInt8) (x : Int) (w : World) (hr : Rd w 1 a n cap (bc l)) (h0 : 0 ≤ x) (h1 : x < 18446744073709551616) (hn : n ≤ 70368744177664) :
    Calls Try.prog 9 #[.slice a n cap, .int .u64 x] w fun e w' => ∃ a' cap', e = .returned (.slice a' (n + sizeN x.toNat) cap') ∧ Own w' w.heap.size 5 1 a' (n + sizeN x.toNat) cap' (bc (l ++ putN x.toNat)) ∧ Below w.heap.size w w' := by
  have HC := Bx.mk (bytes_clone a n cap l w hr hn)
  obtain ⟨m, rfl⟩ := Int.eq_ofNat_of_zero_le h0
  simp only [Int.toNat_natCast] at *
  have hsz := sizeN_cases m
  by_cases hs1 : sizeN m = 1
  · have hz : (((sizeN m : Nat) : Int) == 1) = true := by rw [hs1]; rfl
    have hm : m < 253 := by omega
    have hu : (m : Int) % 256 = m := by omega
    have E : Bx (putN m = [UInt8.ofNat m]) := ⟨by simp [putN, hs1]⟩
    have S1 := Bx.mk hs1
    have H1 := Bx.mk h1
    clear hs1 hr hsz h1
    go_enter Try.func9, Try.ntmps9
    go_wp2_with fail
    refine HC.out.mono ?_
    rintro e w1 ⟨a1, c1, rfl, hown, hbel⟩
    go_wp2_with fail
    refine (compact_size _ _ (by omega) H1.out).mono ?_
    rintro e w' ⟨rfl, rfl⟩
    rw [Int.toNat_natCast]
    go_wp2_with (at_builtin; refine app_bytes rfl _ _ rfl w.heap.size _ _ _ l rfl (hown.alloc _) _ _ _ [UInt8.ofNat m] rfl (rd_lit _ _ _ (u8_ofNat _ _ hu.symm) 1 rfl (by omega)) (by omega) (by have := hbel.size; simp; omega) ?_; rintro a2 c2 w2 hown2 hg)
    have hbel2 := (hown.alloc _).below (hbel.alloc hbel.size _) (by have := hbel.size; simp; omega) hg
    go_wp2
    go_ret
    rw [S1.out, E.out]
    exact ⟨a2, c2, rfl, hown2, hbel2⟩
  · have hz : (((sizeN m : Nat) : Int) == 1) = false := by simp; omega
    have E : Bx (putN m = UInt8.ofNat (leadN (sizeN m)) :: lowB (sizeN m - 1) m) := ⟨by simp [putN, hs1]⟩
    have H1 := Bx.mk h1
    have hs9 : sizeN m ≤ 9 := by omega
    have hs2 : 2 ≤ sizeN m := by omega
    have hCS := Bx.mk (fun w => compact_size (m : Int) w h0 h1)
    rw [Int.toNat_natCast] at hCS
    have H1 := Bx.mk h1
    clear hs1 hr hsz h1 h0
    have hld : leadN (sizeN m) < 256 := by unfold leadN; split; · omega
                                           split <;> omega
    generalize sizeN m = s at *
    go_enter Try.func9, Try.ntmps9
    go_wp2_with fail
    refine HC.out.mono ?_
    rintro e w1 ⟨a1, c1, rfl, hown, hbel⟩
    go_wp2_with fail
    refine (hCS.out _).mono ?_
    rintro e w' ⟨rfl, rfl⟩
    have hLD := Bx.mk (fun w => compact_lead s w)
    generalize hll : leadN s = ld at *
    clear hll
    go_wp2_with (first
      | (go_at_call 20; refine (hLD.out _).mono ?_; rintro e w' ⟨rfl, rfl⟩)
      | (at_builtin; refine app_bytes rfl _ _ rfl w.heap.size _ _ _ l rfl (hown.alloc _) _ _ _ [UInt8.ofNat ld] rfl (rd_lit _ _ _ (u8_ofNat _ _ (by omega)) 1 rfl (by omega)) (by omega) (by have := hbel.size; simp; omega) ?_; rintro a2 c2 w2 hown2 hg))
    have hbel2 := (hown.alloc _).below (hbel.alloc hbel.size _) (by have := hbel.size; simp; omega) hg
    clear hg hown hbel hld hCS hLD
    go_loopw [1, 5, 25] (fun x v i wr => ∃ (j : Nat) (a' : Option Addr) (c' : Nat), j + 1 ≤ s ∧ i = .int .i64 j ∧ x = .int .u64 ((m / 256 ^ j : Nat) : Int) ∧ v = .slice a' (n + 1 + j) c' ∧
        Own wr w.heap.size 5 1 a' (n + 1 + j) c' (bc (l ++ UInt8.ofNat ld :: lowB j m)) ∧ Below w.heap.size w wr) (fun _ _ i _ => s - (intOf i).toNat)
    case atStart => exact ⟨0, a2, c2, by omega, rfl, by simp, rfl, hown2, hbel2⟩
    case round =>
      obtain ⟨j, a', c', hj, rfl, rfl, rfl, hownj, hbelj⟩ := hrel
      clear hbel2 hown2
      by_cases hlt : j + 1 < s
      · have hlow : lowB (j + 1) m = lowB j m ++ [UInt8.ofNat (m / 256 ^ j)] := lowB_succ j m
        have hdiv : m / 256 ^ j / 256 = m / 256 ^ (j + 1) := by rw [Nat.div_div_eq_div_mul, Nat.pow_succ]
        have HL := Bx.mk hlow
        have HD := Bx.mk hdiv
        clear hlow hdiv
        generalize m / 256 ^ j = x at *
        go_wp2_with (at_builtin; refine app_bytes rfl _ _ rfl w.heap.size _ _ _ _ rfl (hownj.alloc _) _ _ _ [UInt8.ofNat x] rfl (rd_lit _ _ _ (u8_ofNat _ _ rfl) 1 rfl (by omega)) (by omega) (by have := hbelj.size; simp; omega) ?_; rintro a3 c3 w3 hown3 hg)
        have hbel3 := (hownj.alloc _).below (hbelj.alloc hbelj.size _) (by have := hbelj.size; simp; omega) hg
        go_roundw
        case rel => exact ⟨j + 1, a3, c3, by omega, by go_num, by rw [← HD.out]; simp, rfl, by rw [HL.out, ← List.cons_append, ← List.append_assoc]; exact hown3, hbel3⟩
        case measure => simp [intOf]; omega
      · go_wp2
        go_ret
        obtain rfl : s = j + 1 := by omega
        rw [E.out, Nat.add_sub_cancel, show n + (j + 1) = n + 1 + j by omega]
        exact ⟨a', c', rfl, hownj, hbelj⟩
end Go.Proofs.Ytmlphlljllcclaa
