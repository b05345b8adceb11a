/- The walks of the document's answer for compact numbers: each computes the same plain functions. -/
import Derived.Test.YtmlphlljllcclaaOnceWalk
namespace Go.Proofs.Ytmlphlljllcclaa
open Go.RowKit Go.Fl
set_option linter.unusedSimpArgs false
set_option linter.unusedVariables false

theorem ref_size (n : Int) (w : World) (h0 : 0 ≤ n) (h1 : n < 18446744073709551616) : Calls Try.prog 18 #[.int .u64 n] w fun e w' => e = .returned (.int .i64 (sizeN n.toNat)) ∧ w = w' := by
  have hs : ∀ m, m = sizeN n.toNat → Ending.returned (.int .i64 (m : Int)) = .returned (.int .i64 (sizeN n.toNat)) := fun m hm => by rw [hm]
  have H := Bx.mk hs
  clear hs
  rcases sizeN_cases n.toNat with ⟨h, e⟩ | ⟨h, h', e⟩ | ⟨h, h', e⟩ | ⟨h, e⟩
  all_goals
    have E := Bx.mk e
    clear e
    go_enter Try.func18, Try.ntmps18
    go_wp2
    go_ret
    refine ⟨H.out _ E.out.symm, rfl⟩

theorem refk (c k : Nat) (h : behindN c + 1 = k) (hc : c < 256) : (c = 253 ∧ k = 3) ∨ (c = 254 ∧ k = 5) ∨ (c = 255 ∧ k = 9) ∨ (c < 253 ∧ k = 1) := by
  unfold behindN at h
  split at h
  · omega
  · split at h
    · omega
    · split at h <;> omega

set_option maxHeartbeats 1000000 in
theorem ref_get (a : Option Addr) (n cap : Nat) (l : List UInt8) (w : World) (hr : Rd w 1 a n cap (bc l)) :
    Calls Try.prog 13 #[.slice a n cap] w fun e w' => e = .returned (.tuple #[.int .u64 (getN l).1, .int .i64 (getN l).2.1, .int .i64 (getN l).2.2]) ∧ w = w' := by
  have hs : ∀ x y z : Nat, (x, y, z) = getN l → Ending.returned (.tuple #[.int .u64 (x : Int), .int .i64 (y : Int), .int .i64 (z : Int)]) = .returned (.tuple #[.int .u64 (getN l).1, .int .i64 (getN l).2.1, .int .i64 (getN l).2.2]) := fun x y z hm => by rw [← hm]
  have H := Bx.mk hs
  clear hs
  have hmax := hr.max
  have hle := hr.le
  have hlen : l.length = n := by simpa using hr.len
  unfold maxLen at hmax
  cases l with
  | nil =>
    obtain rfl : n = 0 := by simpa using hlen.symm
    have E : Bx ((0, 0, 1) = getN []) := ⟨rfl⟩
    clear hr
    go_enter Try.func13, Try.ntmps13
    go_wp2
    go_ret3
    exact ⟨H.out 0 0 1 E.out, rfl⟩
  | cons c r =>
    have hn : r.length + 1 = n := by simpa using hlen
    obtain ⟨b, off, rfl, _⟩ := hr.addr (by omega) (by decide)
    have hcell := hr.byte
    have hc0 : w.cell? ⟨b, off, none⟩ = some (.int .u8 (c.toNat : Int)) := hcell 0 (by simp)
    have hc256 := c.toNat_lt
    have hnz : ((n : Int) == 0) = false := by simpa using (by omega : ¬ (n : Int) = 0)
    have HC := Bx.mk hcell
    clear hcell hr hlen
    generalize hkk : behindN c.toNat = k at *
    have hg : getN (c :: r) = if k = 0 then (c.toNat, 1, 0) else if r.length < k then (0, 0, 1) else if sizeN (leVal (r.take k)) ≠ k + 1 then (0, 0, 2) else (leVal (r.take k), k + 1, 0) := by
      simp only [getN, hkk]
    have G := Bx.mk hg
    have hq := refk c.toNat (k + 1) (by rw [hkk]) hc256
    clear hg hkk
    have hc1 : c.toNat < 253 → sizeN c.toNat = 1 := fun h => by have := sizeN_cases c.toNat; omega
    generalize c.toNat = d at *
    by_cases hk0 : k = 0
    · subst hk0
      have hd' : d < 253 := by omega
      have S1 := Bx.mk (hc1 hd')
      have h1 : ((d : Int) == 253) = false := by simpa using (by omega : ¬ (d : Int) = 253)
      have h2 : ((d : Int) == 254) = false := by simpa using (by omega : ¬ (d : Int) = 254)
      have h3 : ((d : Int) == 255) = false := by simpa using (by omega : ¬ (d : Int) = 255)
      have hS := Bx.mk (fun W => ref_size (d : Int) W (by omega) (by omega))
      simp only [Int.toNat_natCast, S1.out] at hS
      clear hq hc1 hd'
      go_enter Try.func13, Try.ntmps13
      go_wp2_with (go_at_call 18; (with_reducible refine (hS.out _).mono ?_); rintro e w' ⟨rfl, rfl⟩)
      go_ret3
      exact ⟨H.out d 1 0 (by rw [G.out]; rfl), rfl⟩
    · by_cases hsh : r.length < k
      · have E : Bx ((0, 0, 1) = getN (c :: r)) := ⟨by rw [G.out, if_neg hk0, if_pos hsh]⟩
        clear G
        rcases hq with ⟨rfl, hq⟩ | ⟨rfl, hq⟩ | ⟨rfl, hq⟩ | ⟨hq, hq'⟩
        case inr.inr.inr => omega
        all_goals
          obtain rfl : k = _ := Nat.succ.inj hq
          clear hc1 hq
          go_enter Try.func13, Try.ntmps13
          go_wp2
          go_ret3
          exact ⟨H.out 0 0 1 E.out, rfl⟩
      · have hfin : ∀ m : Nat, leVal (r.take k) = m → getN (c :: r) = if sizeN m ≠ k + 1 then (0, 0, 2) else (m, k + 1, 0) := fun m hm => by rw [G.out, if_neg hk0, if_neg hsh, hm]
        have FIN := Bx.mk hfin
        clear hfin G
        have hk8 : k ≤ 8 := by omega
        rcases hq with ⟨rfl, hq⟩ | ⟨rfl, hq⟩ | ⟨rfl, hq⟩ | ⟨hq, hq'⟩
        · obtain rfl : k = 2 := Nat.succ.inj hq
          clear hc1 hq
          go_enter Try.func13, Try.ntmps13
          go_wp2
          go_loop [6, 7] (fun m i => ∃ j : Nat, j ≤ 2 ∧ i = .int .i64 j ∧ m = .int .u64 (leVal ((r.drop j).take (2 - j)))) (fun _ i => (intOf i).toNat)
          case atStart => exact ⟨2, Nat.le_refl _, rfl, by simp [leVal]⟩
          case round =>
            obtain ⟨j, hj, rfl, rfl⟩ := hrel
            by_cases hj0 : 0 < j
            · have hcj : w.cell? ⟨b, off + j, none⟩ = some (.int .u8 ((r[j - 1]'(by omega)).toNat : Int)) := by
                obtain ⟨i, rfl⟩ : ∃ i, j = i + 1 := ⟨j - 1, by omega⟩
                exact HC.out (i + 1) (by simp; omega)
              have hstep := leVal_step r 2 j hj hj0 (by omega)
              have hlt2 := leVal_lt7 r 2 j (by omega) hj0 (by omega)
              have hj1 : 1 ≤ j := hj0
              generalize leVal ((r.drop j).take (2 - j)) = m at *
              have hd256 := (r[j - 1]'(by omega)).toNat_lt
              generalize (r[j - 1]'(by omega)).toNat = d at *
              have HS := Bx.mk hstep
              have hwr : IntKind.u64.wrap ((m : Int) * 256) = (m : Int) * 256 := IntWalk.u64_in _ (by omega)
              have hwr2 : IntKind.u64.wrap ((m : Int) * 256 + (d : Int)) = (m : Int) * 256 + d := IntWalk.u64_in _ (by omega)
              clear hstep hlt2 hj0
              go_wp2
              go_round
              case rel => exact ⟨j - 1, by omega, by congr 1; omega, by rw [HS.out]; congr 1; omega⟩
              case measure => simp [intOf]; omega
            · obtain rfl : j = 0 := by omega
              have hfin := FIN.out _ rfl
              have hlt2 := leVal_lt8 r 2 (by omega) (by omega)
              simp only [List.drop_zero, Nat.sub_zero]
              generalize leVal (r.take 2) = m at *
              have hS := Bx.mk (fun W => ref_size (m : Int) W (by omega) (by omega))
              simp only [Int.toNat_natCast] at hS
              clear FIN hlt2
              by_cases hsz : sizeN m = 2 + 1
              · have E : Bx ((m, 2 + 1, 0) = getN (c :: r)) := ⟨by rw [hfin, if_neg (by simpa using hsz)]⟩
                rw [hsz] at hS
                clear hfin hsz
                go_wp2_with (go_at_call 18; (with_reducible refine (hS.out _).mono ?_); rintro e w' ⟨rfl, rfl⟩)
                go_ret3
                exact ⟨H.out m (2 + 1) 0 E.out, rfl⟩
              · have E : Bx ((0, 0, 2) = getN (c :: r)) := ⟨by rw [hfin, if_pos hsz]⟩
                generalize sizeN m = s at *
                have hz2 : ((s : Int) != 2 + 1) = true := by simp; omega
                have hz3 : ((s : Int) == 2 + 1) = false := by simp; omega
                clear hfin hsz
                simp only [Int.reduceAdd] at hz2 hz3
                go_wp2_with (go_at_call 18; (with_reducible refine (hS.out _).mono ?_); rintro e w' ⟨rfl, rfl⟩)
                go_ret3
                exact ⟨H.out 0 0 2 E.out, rfl⟩
        · obtain rfl : k = 4 := Nat.succ.inj hq
          clear hc1 hq
          go_enter Try.func13, Try.ntmps13
          go_wp2
          go_loop [6, 7] (fun m i => ∃ j : Nat, j ≤ 4 ∧ i = .int .i64 j ∧ m = .int .u64 (leVal ((r.drop j).take (4 - j)))) (fun _ i => (intOf i).toNat)
          case atStart => exact ⟨4, Nat.le_refl _, rfl, by simp [leVal]⟩
          case round =>
            obtain ⟨j, hj, rfl, rfl⟩ := hrel
            by_cases hj0 : 0 < j
            · have hcj : w.cell? ⟨b, off + j, none⟩ = some (.int .u8 ((r[j - 1]'(by omega)).toNat : Int)) := by
                obtain ⟨i, rfl⟩ : ∃ i, j = i + 1 := ⟨j - 1, by omega⟩
                exact HC.out (i + 1) (by simp; omega)
              have hstep := leVal_step r 4 j hj hj0 (by omega)
              have hlt2 := leVal_lt7 r 4 j (by omega) hj0 (by omega)
              have hj1 : 1 ≤ j := hj0
              generalize leVal ((r.drop j).take (4 - j)) = m at *
              have hd256 := (r[j - 1]'(by omega)).toNat_lt
              generalize (r[j - 1]'(by omega)).toNat = d at *
              have HS := Bx.mk hstep
              have hwr : IntKind.u64.wrap ((m : Int) * 256) = (m : Int) * 256 := IntWalk.u64_in _ (by omega)
              have hwr2 : IntKind.u64.wrap ((m : Int) * 256 + (d : Int)) = (m : Int) * 256 + d := IntWalk.u64_in _ (by omega)
              clear hstep hlt2 hj0
              go_wp2
              go_round
              case rel => exact ⟨j - 1, by omega, by congr 1; omega, by rw [HS.out]; congr 1; omega⟩
              case measure => simp [intOf]; omega
            · obtain rfl : j = 0 := by omega
              have hfin := FIN.out _ rfl
              have hlt2 := leVal_lt8 r 4 (by omega) (by omega)
              simp only [List.drop_zero, Nat.sub_zero]
              generalize leVal (r.take 4) = m at *
              have hS := Bx.mk (fun W => ref_size (m : Int) W (by omega) (by omega))
              simp only [Int.toNat_natCast] at hS
              clear FIN hlt2
              by_cases hsz : sizeN m = 4 + 1
              · have E : Bx ((m, 4 + 1, 0) = getN (c :: r)) := ⟨by rw [hfin, if_neg (by simpa using hsz)]⟩
                rw [hsz] at hS
                clear hfin hsz
                go_wp2_with (go_at_call 18; (with_reducible refine (hS.out _).mono ?_); rintro e w' ⟨rfl, rfl⟩)
                go_ret3
                exact ⟨H.out m (4 + 1) 0 E.out, rfl⟩
              · have E : Bx ((0, 0, 2) = getN (c :: r)) := ⟨by rw [hfin, if_pos hsz]⟩
                generalize sizeN m = s at *
                have hz2 : ((s : Int) != 4 + 1) = true := by simp; omega
                have hz3 : ((s : Int) == 4 + 1) = false := by simp; omega
                clear hfin hsz
                simp only [Int.reduceAdd] at hz2 hz3
                go_wp2_with (go_at_call 18; (with_reducible refine (hS.out _).mono ?_); rintro e w' ⟨rfl, rfl⟩)
                go_ret3
                exact ⟨H.out 0 0 2 E.out, rfl⟩
        · obtain rfl : k = 8 := Nat.succ.inj hq
          clear hc1 hq
          go_enter Try.func13, Try.ntmps13
          go_wp2
          go_loop [6, 7] (fun m i => ∃ j : Nat, j ≤ 8 ∧ i = .int .i64 j ∧ m = .int .u64 (leVal ((r.drop j).take (8 - j)))) (fun _ i => (intOf i).toNat)
          case atStart => exact ⟨8, Nat.le_refl _, rfl, by simp [leVal]⟩
          case round =>
            obtain ⟨j, hj, rfl, rfl⟩ := hrel
            by_cases hj0 : 0 < j
            · have hcj : w.cell? ⟨b, off + j, none⟩ = some (.int .u8 ((r[j - 1]'(by omega)).toNat : Int)) := by
                obtain ⟨i, rfl⟩ : ∃ i, j = i + 1 := ⟨j - 1, by omega⟩
                exact HC.out (i + 1) (by simp; omega)
              have hstep := leVal_step r 8 j hj hj0 (by omega)
              have hlt2 := leVal_lt7 r 8 j (by omega) hj0 (by omega)
              have hj1 : 1 ≤ j := hj0
              generalize leVal ((r.drop j).take (8 - j)) = m at *
              have hd256 := (r[j - 1]'(by omega)).toNat_lt
              generalize (r[j - 1]'(by omega)).toNat = d at *
              have HS := Bx.mk hstep
              have hwr : IntKind.u64.wrap ((m : Int) * 256) = (m : Int) * 256 := IntWalk.u64_in _ (by omega)
              have hwr2 : IntKind.u64.wrap ((m : Int) * 256 + (d : Int)) = (m : Int) * 256 + d := IntWalk.u64_in _ (by omega)
              clear hstep hlt2 hj0
              go_wp2
              go_round
              case rel => exact ⟨j - 1, by omega, by congr 1; omega, by rw [HS.out]; congr 1; omega⟩
              case measure => simp [intOf]; omega
            · obtain rfl : j = 0 := by omega
              have hfin := FIN.out _ rfl
              have hlt2 := leVal_lt8 r 8 (by omega) (by omega)
              simp only [List.drop_zero, Nat.sub_zero]
              generalize leVal (r.take 8) = m at *
              have hS := Bx.mk (fun W => ref_size (m : Int) W (by omega) (by omega))
              simp only [Int.toNat_natCast] at hS
              clear FIN hlt2
              by_cases hsz : sizeN m = 8 + 1
              · have E : Bx ((m, 8 + 1, 0) = getN (c :: r)) := ⟨by rw [hfin, if_neg (by simpa using hsz)]⟩
                rw [hsz] at hS
                clear hfin hsz
                go_wp2_with (go_at_call 18; (with_reducible refine (hS.out _).mono ?_); rintro e w' ⟨rfl, rfl⟩)
                go_ret3
                exact ⟨H.out m (8 + 1) 0 E.out, rfl⟩
              · have E : Bx ((0, 0, 2) = getN (c :: r)) := ⟨by rw [hfin, if_pos hsz]⟩
                generalize sizeN m = s at *
                have hz2 : ((s : Int) != 8 + 1) = true := by simp; omega
                have hz3 : ((s : Int) == 8 + 1) = false := by simp; omega
                clear hfin hsz
                simp only [Int.reduceAdd] at hz2 hz3
                go_wp2_with (go_at_call 18; (with_reducible refine (hS.out _).mono ?_); rintro e w' ⟨rfl, rfl⟩)
                go_ret3
                exact ⟨H.out 0 0 2 E.out, rfl⟩
        · omega
end Go.Proofs.Ytmlphlljllcclaa
