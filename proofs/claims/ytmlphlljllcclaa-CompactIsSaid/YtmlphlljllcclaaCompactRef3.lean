/- The walk of the document's answer for putting a compact number. -/
import Derived.Test.YtmlphlljllcclaaCompactRef2
namespace Go.Proofs.Ytmlphlljllcclaa
open Go.RowKit Go.Fl
set_option linter.unusedSimpArgs false
set_option linter.unusedVariables false

theorem shr_low (m j : Nat) : ((m : Int) / 2 ^ (8 * j)) % 256 = ((m / 256 ^ j : Nat) : Int) % 256 := by
  rw [show (256 : Nat) = 2 ^ 8 from rfl, ← Nat.pow_mul]
  simp

set_option maxHeartbeats 1000000 in
theorem ref_put (a : Option Addr) (n cap : Nat) (l : List UInt8) (m : Nat) (w : World) (hr : Rd w 1 a n cap (bc l)) (h1 : m < 18446744073709551616) (hn : n ≤ 70368744177664) :
    Calls Try.prog 17 #[.slice a n cap, .int .u64 (m : Int)] w fun e w' => ∃ a' cap', e = .returned (.slice a' (n + sizeN m) cap') ∧ Own w' w.heap.size 5 1 a' (n + sizeN m) cap' (bc (l ++ putN m)) ∧ Below w.heap.size w w' := by
  have h1' : (m : Int) < 18446744073709551616 := by omega
  have hS := Bx.mk (fun W => ref_size (m : Int) W (by omega) h1')
  simp only [Int.toNat_natCast] at hS
  have hsz := sizeN_cases m
  have H1 := Bx.mk h1
  have HR := Bx.mk hr
  have hb0 : Below w.heap.size w (w.alloc (.cells #[] 5)) := (Below.refl w.heap.size w).alloc (Nat.le_refl _) _
  have hO := own_lit w w.heap.size [] #[] rfl 0 rfl (by omega) (Nat.le_refl _)
  clear h1 h1' hr
  by_cases hs1 : sizeN m = 1
  · have E : Bx (putN m = [UInt8.ofNat m]) := ⟨by simp [putN, hs1]⟩
    have hu : (m : Int) % 256 = m := by omega
    rw [hs1] at hS ⊢
    clear hs1 hsz
    go_enter Try.func17, Try.ntmps17
    go_wp2_with (first
      | (at_builtin; refine app_bytes rfl (.tmp 9) (.tmp 10) rfl w.heap.size _ _ _ [] rfl hO _ _ _ l rfl (HR.out.alloc _) (by omega) (by simp) ?_; rintro a2 c2 w2 hown2 hg2; have hb2 := hO.below hb0 (by simp) hg2; simp only [Nat.zero_add, List.nil_append] at hown2; clear hg2 hb0 hO)
      | (go_at_call 18; (with_reducible refine (hS.out _).mono ?_); rintro e w' ⟨rfl, rfl⟩)
      | (at_builtin; refine app_bytes rfl (.tmp 16) (.tmp 19) rfl w.heap.size _ _ _ l rfl (hown2.alloc _) _ _ _ [UInt8.ofNat m] rfl (rd_lit _ _ _ (u8_ofNat _ _ hu.symm) 1 rfl (by omega)) (by omega) (by have := hb2.size; simp; omega) ?_; rintro a3 c3 w3 hown3 hg3; have hb3 := (hown2.alloc _).below (hb2.alloc hb2.size _) (by have := hb2.size; simp; omega) hg3; clear hg3))
    go_ret
    rw [E.out]
    exact ⟨a3, c3, rfl, hown3, hb3⟩
  · have E : Bx (putN m = UInt8.ofNat (leadN (sizeN m)) :: lowB (sizeN m - 1) m) := ⟨by simp [putN, hs1]⟩
    have hld : (sizeN m = 3 ∧ leadN (sizeN m) = 253) ∨ (sizeN m = 5 ∧ leadN (sizeN m) = 254) ∨ (sizeN m = 9 ∧ leadN (sizeN m) = 255) := by
      rcases hsz with h | h | h | h
      · omega
      · left; exact ⟨h.2.2, by rw [h.2.2]; rfl⟩
      · right; left; exact ⟨h.2.2, by rw [h.2.2]; rfl⟩
      · right; right; exact ⟨h.2, by rw [h.2]; rfl⟩
    clear hs1 hsz
    generalize leadN (sizeN m) = ld at *
    generalize sizeN m = s at *
    rcases hld with ⟨rfl, rfl⟩ | ⟨rfl, rfl⟩ | ⟨rfl, rfl⟩
    · go_enter Try.func17, Try.ntmps17
      go_wp2_with (first
        | (at_builtin; refine app_bytes rfl (.tmp 9) (.tmp 10) rfl w.heap.size _ _ _ [] rfl hO _ _ _ l rfl (HR.out.alloc _) (by omega) (by simp) ?_; rintro a2 c2 w2 hown2 hg2; have hb2 := hO.below hb0 (by simp) hg2; simp only [Nat.zero_add, List.nil_append] at hown2; clear hg2 hb0 hO)
        | (go_at_call 18; (with_reducible refine (hS.out _).mono ?_); rintro e w' ⟨rfl, rfl⟩)
        | (at_builtin; refine app_bytes rfl (.tmp 25) (.tmp 27) rfl w.heap.size _ _ _ l rfl (hown2.alloc _) _ _ _ [UInt8.ofNat 253] rfl (rd_lit _ _ #[.int .u8 253] rfl 1 rfl (by omega)) (by omega) (by have := hb2.size; simp; omega) ?_; rintro a3 c3 w3 hown3 hg3; have hb3 := (hown2.alloc _).below (hb2.alloc hb2.size _) (by have := hb2.size; simp; omega) hg3; clear hg3 hown2 hb2))
      go_loopw [5, 8] (fun v i wr => ∃ (j : Nat) (a' : Option Addr) (c' : Nat), j + 1 ≤ 3 ∧ i = .int .i64 j ∧ v = .slice a' (n + 1 + j) c' ∧
          Own wr w.heap.size 5 1 a' (n + 1 + j) c' (bc (l ++ UInt8.ofNat 253 :: lowB j m)) ∧ Below w.heap.size w wr) (fun _ i _ => 3 - (intOf i).toNat)
      case atStart => exact ⟨0, a3, c3, by omega, rfl, rfl, hown3, hb3⟩
      case round =>
        obtain ⟨j, a', c', hj, rfl, rfl, hownj, hbelj⟩ := hrel
        clear hb3 hown3
        by_cases hlt : j + 1 < 3
        · have hlow : lowB (j + 1) m = lowB j m ++ [UInt8.ofNat (m / 256 ^ j)] := lowB_succ j m
          have HL := Bx.mk hlow
          clear hlow
          go_wp2_with (at_builtin; refine app_bytes rfl _ _ rfl w.heap.size _ _ _ _ rfl (hownj.alloc _) _ _ _ [UInt8.ofNat (m / 256 ^ j)] rfl (rd_lit _ _ _ (u8_ofNat _ _ (shr_low m j)) 1 rfl (by omega)) (by omega) (by have := hbelj.size; simp; omega) ?_; rintro a4 c4 w4 hown4 hg)
          have hbel4 := (hownj.alloc _).below (hbelj.alloc hbelj.size _) (by have := hbelj.size; simp; omega) hg
          go_roundw
          case rel => exact ⟨j + 1, a4, c4, by omega, by go_num, rfl, by rw [HL.out, ← List.cons_append, ← List.append_assoc]; exact hown4, hbel4⟩
          case measure => simp [intOf]; omega
        · go_wp2
          go_ret
          obtain rfl : j = 2 := by omega
          rw [E.out]
          exact ⟨a', c', rfl, hownj, hbelj⟩
    · go_enter Try.func17, Try.ntmps17
      go_wp2_with (first
        | (at_builtin; refine app_bytes rfl (.tmp 9) (.tmp 10) rfl w.heap.size _ _ _ [] rfl hO _ _ _ l rfl (HR.out.alloc _) (by omega) (by simp) ?_; rintro a2 c2 w2 hown2 hg2; have hb2 := hO.below hb0 (by simp) hg2; simp only [Nat.zero_add, List.nil_append] at hown2; clear hg2 hb0 hO)
        | (go_at_call 18; (with_reducible refine (hS.out _).mono ?_); rintro e w' ⟨rfl, rfl⟩)
        | (at_builtin; refine app_bytes rfl (.tmp 25) (.tmp 27) rfl w.heap.size _ _ _ l rfl (hown2.alloc _) _ _ _ [UInt8.ofNat 254] rfl (rd_lit _ _ #[.int .u8 254] rfl 1 rfl (by omega)) (by omega) (by have := hb2.size; simp; omega) ?_; rintro a3 c3 w3 hown3 hg3; have hb3 := (hown2.alloc _).below (hb2.alloc hb2.size _) (by have := hb2.size; simp; omega) hg3; clear hg3 hown2 hb2))
      go_loopw [5, 8] (fun v i wr => ∃ (j : Nat) (a' : Option Addr) (c' : Nat), j + 1 ≤ 5 ∧ i = .int .i64 j ∧ v = .slice a' (n + 1 + j) c' ∧
          Own wr w.heap.size 5 1 a' (n + 1 + j) c' (bc (l ++ UInt8.ofNat 254 :: lowB j m)) ∧ Below w.heap.size w wr) (fun _ i _ => 5 - (intOf i).toNat)
      case atStart => exact ⟨0, a3, c3, by omega, rfl, rfl, hown3, hb3⟩
      case round =>
        obtain ⟨j, a', c', hj, rfl, rfl, hownj, hbelj⟩ := hrel
        clear hb3 hown3
        by_cases hlt : j + 1 < 5
        · have hlow : lowB (j + 1) m = lowB j m ++ [UInt8.ofNat (m / 256 ^ j)] := lowB_succ j m
          have HL := Bx.mk hlow
          clear hlow
          go_wp2_with (at_builtin; refine app_bytes rfl _ _ rfl w.heap.size _ _ _ _ rfl (hownj.alloc _) _ _ _ [UInt8.ofNat (m / 256 ^ j)] rfl (rd_lit _ _ _ (u8_ofNat _ _ (shr_low m j)) 1 rfl (by omega)) (by omega) (by have := hbelj.size; simp; omega) ?_; rintro a4 c4 w4 hown4 hg)
          have hbel4 := (hownj.alloc _).below (hbelj.alloc hbelj.size _) (by have := hbelj.size; simp; omega) hg
          go_roundw
          case rel => exact ⟨j + 1, a4, c4, by omega, by go_num, rfl, by rw [HL.out, ← List.cons_append, ← List.append_assoc]; exact hown4, hbel4⟩
          case measure => simp [intOf]; omega
        · go_wp2
          go_ret
          obtain rfl : j = 4 := by omega
          rw [E.out]
          exact ⟨a', c', rfl, hownj, hbelj⟩
    · go_enter Try.func17, Try.ntmps17
      go_wp2_with (first
        | (at_builtin; refine app_bytes rfl (.tmp 9) (.tmp 10) rfl w.heap.size _ _ _ [] rfl hO _ _ _ l rfl (HR.out.alloc _) (by omega) (by simp) ?_; rintro a2 c2 w2 hown2 hg2; have hb2 := hO.below hb0 (by simp) hg2; simp only [Nat.zero_add, List.nil_append] at hown2; clear hg2 hb0 hO)
        | (go_at_call 18; (with_reducible refine (hS.out _).mono ?_); rintro e w' ⟨rfl, rfl⟩)
        | (at_builtin; refine app_bytes rfl (.tmp 25) (.tmp 27) rfl w.heap.size _ _ _ l rfl (hown2.alloc _) _ _ _ [UInt8.ofNat 255] rfl (rd_lit _ _ #[.int .u8 255] rfl 1 rfl (by omega)) (by omega) (by have := hb2.size; simp; omega) ?_; rintro a3 c3 w3 hown3 hg3; have hb3 := (hown2.alloc _).below (hb2.alloc hb2.size _) (by have := hb2.size; simp; omega) hg3; clear hg3 hown2 hb2))
      go_loopw [5, 8] (fun v i wr => ∃ (j : Nat) (a' : Option Addr) (c' : Nat), j + 1 ≤ 9 ∧ i = .int .i64 j ∧ v = .slice a' (n + 1 + j) c' ∧
          Own wr w.heap.size 5 1 a' (n + 1 + j) c' (bc (l ++ UInt8.ofNat 255 :: lowB j m)) ∧ Below w.heap.size w wr) (fun _ i _ => 9 - (intOf i).toNat)
      case atStart => exact ⟨0, a3, c3, by omega, rfl, rfl, hown3, hb3⟩
      case round =>
        obtain ⟨j, a', c', hj, rfl, rfl, hownj, hbelj⟩ := hrel
        clear hb3 hown3
        by_cases hlt : j + 1 < 9
        · have hlow : lowB (j + 1) m = lowB j m ++ [UInt8.ofNat (m / 256 ^ j)] := lowB_succ j m
          have HL := Bx.mk hlow
          clear hlow
          go_wp2_with (at_builtin; refine app_bytes rfl _ _ rfl w.heap.size _ _ _ _ rfl (hownj.alloc _) _ _ _ [UInt8.ofNat (m / 256 ^ j)] rfl (rd_lit _ _ _ (u8_ofNat _ _ (shr_low m j)) 1 rfl (by omega)) (by omega) (by have := hbelj.size; simp; omega) ?_; rintro a4 c4 w4 hown4 hg)
          have hbel4 := (hownj.alloc _).below (hbelj.alloc hbelj.size _) (by have := hbelj.size; simp; omega) hg
          go_roundw
          case rel => exact ⟨j + 1, a4, c4, by omega, by go_num, rfl, by rw [HL.out, ← List.cons_append, ← List.append_assoc]; exact hown4, hbel4⟩
          case measure => simp [intOf]; omega
        · go_wp2
          go_ret
          obtain rfl : j = 8 := by omega
          rw [E.out]
          exact ⟨a', c', rfl, hownj, hbelj⟩
end Go.Proofs.Ytmlphlljllcclaa
