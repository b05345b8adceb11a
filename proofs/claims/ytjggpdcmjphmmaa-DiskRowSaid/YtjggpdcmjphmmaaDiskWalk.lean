/- The walks of the disk's small functions. -/
import Derived.Test.YtjggpdcmjphmmaaDiskSpec
import Derived.Test.YtjggpdcmjphmmaaBytes
import Derived.Test.YtjggpdcmjphmmaaFree
namespace Go.Proofs.Ytjggpdcmjphmmaa
open Go.RowKit Go.Fl
set_option linter.unusedSimpArgs false
set_option linter.unusedVariables false

theorem disk_sectors (a : Option Addr) (n cap : Nat) (p : Value) (w : World) (hn : n ≤ 70368744177664) :
    Calls Try.prog 21 #[.agg #[.slice a n cap, p]] w fun e w' => e = .returned (.int .i64 ((n / 32 : Nat) : Int)) ∧ Below w.heap.size w w' := by
  go_enter Try.func21, Try.ntmps21
  go_wp2
  go_ret
  exact ⟨by simp, (Below.refl _ _).alloc (Nat.le_refl _) _⟩

theorem disk_has (a : Option Addr) (n cap : Nat) (p : Value) (at_ : Int) (w : World) (hn : n ≤ 70368744177664) :
    Calls Try.prog 24 #[.agg #[.slice a n cap, p], .int .i64 at_] w fun e w' => e = .returned (.bool (hasB n at_)) ∧ Below w.heap.size w w' := by
  have H := Bx.mk (fun W => disk_sectors a n cap p W hn)
  have hb : Below w.heap.size w (w.alloc (.cells #[.slice a n cap, p] 31)) := (Below.refl _ _).alloc (Nat.le_refl _) _
  have E := Bx.mk (show hasB n at_ = (decide (0 ≤ at_) && decide (at_ < ((n / 32 : Nat) : Int))) by simp [hasB])
  by_cases h0 : 0 ≤ at_
  · have hd : decide (0 ≤ at_) = true := by simpa using h0
    go_enter Try.func24, Try.ntmps24
    go_wp2_with (go_at_call 21; (with_reducible refine (H.out _).mono ?_); rintro e w1 ⟨rfl, hb1⟩)
    go_ret
    exact ⟨by rw [E.out, hd]; simp, hb.trans (hb1.mono (by simp))⟩
  · have hd : decide (0 ≤ at_) = false := by simpa using h0
    go_enter Try.func24, Try.ntmps24
    go_wp2
    go_ret
    exact ⟨by rw [E.out, hd]; simp, hb⟩

theorem disk_sector (g off n cap : Nat) (k : Int) (w : World) (h0 : 0 ≤ k) (h1 : 32 * k + 32 ≤ n) (hc : n ≤ cap) (hn : n ≤ 70368744177664) :
    Calls Try.prog 31 #[.slice (some ⟨g, off, none⟩) n cap, .int .i64 k] w fun e w' => e = .returned (.slice (some ⟨g, off + 32 * k.toNat, none⟩) 32 32) ∧ w = w' := by
  obtain ⟨m, rfl⟩ := Int.eq_ofNat_of_zero_le h0
  go_enter Try.func31, Try.ntmps31
  go_wp2
  go_ret
  exact ⟨by simp; omega, rfl⟩

/-- The closure that Sane hands on: is a write bad? -/
theorem disk_sane1 (k : Int) (da : Option Addr) (dn dc : Nat) (blk : Nat) (a : Option Addr) (n cap : Nat) (p : Value) (w : World) (hn : n ≤ 70368744177664) (hd : dn ≤ 70368744177664)
    (h0 : w.cell? ⟨blk, 0, none⟩ = some (.slice a n cap)) (h1 : w.cell? ⟨blk, 1, none⟩ = some p) (hlt : blk < w.heap.size) :
    Calls Try.prog 23 #[.agg #[.int .i64 k, .slice da dn dc], .pointer (some ⟨blk, 0, none⟩)] w fun e w' => e = .returned (.bool (decide (dn ≠ 32) || !hasB n k)) ∧ Below w.heap.size w w' := by
  have H := Bx.mk (fun W => disk_has a n cap p k W hn)
  have hb : Below w.heap.size w (w.alloc (.cells #[.int .i64 k, .slice da dn dc] 51)) := (Below.refl _ _).alloc (Nat.le_refl _) _
  by_cases h : dn = 32
  · subst h
    go_enter Try.func23, Try.ntmps23
    go_wp2_with (go_at_call 24; (with_reducible refine (H.out _).mono ?_); rintro e w1 ⟨rfl, hb1⟩)
    go_ret
    exact ⟨by simp, hb.trans (hb1.mono (by simp))⟩
  · have hne : ((dn : Int) != 32) = true := by simp; omega
    go_enter Try.func23, Try.ntmps23
    go_wp2
    go_ret
    exact ⟨by simp [h], hb⟩

/-- The first place at which something is so; -1: none. -/
def firstI (p : Nat → Bool) (m : Nat) : Int := match (List.range m).find? p with | some i => (i : Int) | none => -1
theorem firstI_none {p : Nat → Bool} {m : Nat} (h : ∀ i, i < m → p i = false) : firstI p m = -1 := by
  unfold firstI
  rw [List.find?_eq_none.2 (fun i hi => by simp [h i (List.mem_range.1 hi)])]
theorem firstI_some {p : Nat → Bool} {m k : Nat} (hk : k < m) (h : ∀ i, i < k → p i = false) (hp : p k = true) : firstI p m = k := by
  unfold firstI
  have : (List.range m).find? p = some k := by
    rw [List.find?_range_eq_some]
    exact ⟨hp, List.mem_range.2 hk, fun j hj => by simp [h j hj]⟩
  rw [this]

set_option maxHeartbeats 400000 in
theorem index_write (F : FuncId) (capt : Array Value) (hcf : ∀ args W, (callFunc F args).run Try.prog W = .ok (.enter F args) W) (a : Option Addr) (m c : Nat) (G : Nat → Value → Value → Prop) (p : Nat → Bool) (w : World) (hm : m ≤ 70368744177664) (hmc : m ≤ c) (hc : c ≤ maxLen)
    (hcell : ∀ i, i < m → ∃ b off u v, a = some ⟨b, off, none⟩ ∧ G i u v ∧ w.cell? ⟨b, off + i * 2, none⟩ = some u ∧ w.cell? ⟨b, off + i * 2 + 1, none⟩ = some v)
    (hf : ∀ i u v W, i < m → G i u v → Below w.heap.size w W → Calls Try.prog F (#[.agg #[u, v]] ++ capt) W fun e w' => e = .returned (.bool (p i)) ∧ Below W.heap.size W w') :
    Calls Try.prog 32 #[.slice a m c, .func (.func F) #[] capt] w fun e w' => e = .returned (.int .i64 (firstI p m)) ∧ Below w.heap.size w w' := by
  have HF := Bx.mk hf
  have HC := Bx.mk hcell
  unfold maxLen at hc
  clear hf hcell
  go_enter Try.func32, Try.ntmps32
  go_wp2
  go_loopw [5, 8] (fun x i wr => ∃ k : Nat, k ≤ m ∧ i = .int .i64 k ∧ Below w.heap.size w wr ∧ Bx (∀ j, j < k → p j = false)) (fun _ i _ => m - (intOf i).toNat)
  case atStart => exact ⟨0, Nat.zero_le _, rfl, Below.refl _ _, ⟨fun j hj => by omega⟩⟩
  case round =>
    obtain ⟨k, hk, rfl, hbk, hno⟩ := hrel
    by_cases hlt : k < m
    · obtain ⟨b, off, u, v, ha, huv, h0, h1⟩ := HC.out k hlt
      subst ha
      have h0' : wr.cell? ⟨b, off + k * 2, none⟩ = some u := (hbk.cell (p := ⟨b, off + k * 2, none⟩) (World.block_lt_of_cell? _ _ h0)).trans h0
      have h1' : wr.cell? ⟨b, off + k * 2 + 1, none⟩ = some v := (hbk.cell (p := ⟨b, off + k * 2 + 1, none⟩) (World.block_lt_of_cell? _ _ h1)).trans h1
      have hcall := HF.out k u v wr hlt huv hbk
      have HCALL := Bx.mk hcall
      clear hcall h0 h1 huv
      go_wp2_with fail
      (with_reducible refine HCALL.out.mono ?_)
      rintro e w1 ⟨rfl, hb1⟩
      have hbw := hbk.trans (hb1.mono hbk.size)
      cases hpk : p k with
      | true =>
        have E := Bx.mk (firstI_some hlt hno.out hpk)
        clear hpk HF HC hno
        go_wp2
        go_ret
        exact ⟨by rw [E.out]; rfl, hbw⟩
      | false =>
        have hno' : Bx (∀ j, j < k + 1 → p j = false) := ⟨fun j hj => by
          rcases Nat.lt_or_ge j k with h | h
          · exact hno.out j h
          · obtain rfl : j = k := by omega
            exact hpk⟩
        clear hpk
        go_wp2
        go_roundw
        case rel => exact ⟨k + 1, by omega, by go_num, hbw, hno'⟩
        case measure => simp [intOf]; omega
    · obtain rfl : k = m := by omega
      have E := Bx.mk (firstI_none hno.out)
      clear hno
      go_wp2
      go_ret
      exact ⟨by rw [E.out]; rfl, hbk⟩

theorem contains_write (F : FuncId) (capt : Array Value) (hcf : ∀ args W, (callFunc F args).run Try.prog W = .ok (.enter F args) W) (a : Option Addr) (m c : Nat) (G : Nat → Value → Value → Prop) (p : Nat → Bool) (w : World) (hm : m ≤ 70368744177664) (hmc : m ≤ c) (hc : c ≤ maxLen)
    (hcell : ∀ i, i < m → ∃ b off u v, a = some ⟨b, off, none⟩ ∧ G i u v ∧ w.cell? ⟨b, off + i * 2, none⟩ = some u ∧ w.cell? ⟨b, off + i * 2 + 1, none⟩ = some v)
    (hf : ∀ i u v W, i < m → G i u v → Below w.heap.size w W → Calls Try.prog F (#[.agg #[u, v]] ++ capt) W fun e w' => e = .returned (.bool (p i)) ∧ Below W.heap.size W w') :
    Calls Try.prog 22 #[.slice a m c, .func (.func F) #[] capt] w fun e w' => e = .returned (.bool (decide (0 ≤ firstI p m))) ∧ Below w.heap.size w w' := by
  have H := Bx.mk (index_write F capt hcf a m c G p w hm hmc hc hcell hf)
  clear hcf hcell hf
  generalize firstI p m = r at *
  go_enter Try.func22, Try.ntmps22
  go_wp2_with (go_at_call 32; (with_reducible refine H.out.mono ?_); rintro e w1 ⟨rfl, hb1⟩)
  go_ret
  exact ⟨rfl, hb1⟩

theorem any_first {α : Type} (q : α → Bool) (l : List α) (p : Nat → Bool) (h : ∀ i (hi : i < l.length), p i = q l[i]) : decide (0 ≤ firstI p l.length) = l.any q := by
  unfold firstI
  cases hf : (List.range l.length).find? p with
  | none =>
    have h1 := List.find?_eq_none.1 hf
    have : l.any q = false := by
      rw [List.any_eq_false]
      intro x hx
      obtain ⟨i, hi, rfl⟩ := List.getElem_of_mem hx
      rw [← h i hi]
      exact h1 i (List.mem_range.2 hi)
    rw [this]; rfl
  | some k =>
    have h1 := List.find?_range_eq_some.1 hf
    have hk := List.mem_range.1 h1.2.1
    have : l.any q = true := List.any_eq_true.2 ⟨l[k], List.getElem_mem hk, by rw [← h k hk]; exact h1.1⟩
    rw [this]
    simp

/-- Sane tells whether a disk may be. -/
theorem disk_sane (a : Option Addr) (n cap : Nat) (b : Option Addr) (m c : Nat) (D : Dk) (w : World) (hr : RdD w a n cap b m c D) (hn : n ≤ 70368744177664) (hm : m ≤ 70368744177664) (hd : ∀ x ∈ D.2, x.2.length ≤ 70368744177664) :
    Calls Try.prog 10 #[.agg #[.slice a n cap, .slice b m c]] w fun e w' => e = .returned (.bool (saneB D)) ∧ Below w.heap.size w w' := by
  obtain ⟨hl1, hl2⟩ := hr.len
  have hb : Below w.heap.size w (w.alloc (.cells #[.slice a n cap, .slice b m c] 31)) := (Below.refl _ _).alloc (Nat.le_refl _) _
  have hR1 := hr.mono hb
  have hmc : m ≤ c := by obtain ⟨css, h, _⟩ := hr.pend; exact h.le
  have hcm : c ≤ maxLen := by obtain ⟨css, h, _⟩ := hr.pend; exact h.max
  have HSEC := Bx.mk (fun W => disk_sectors a n cap (.slice b m c) W hn)
  have hS : saneB D = (decide (n % 32 = 0) && decide (n / 32 ≤ 4096) && decide (m ≤ 100000) && !(D.2.any (wrBad n))) := by
    unfold saneB
    rw [hl1, hl2]
    simp [Bool.decide_and, Bool.and_assoc]
  have hcon := fun (W1 : World) (hW1 : Below (w.alloc (.cells #[.slice a n cap, .slice b m c] 31)).heap.size (w.alloc (.cells #[.slice a n cap, .slice b m c] 31)) W1) =>
    contains_write 23 #[.pointer (some ⟨w.heap.size, 0, none⟩)] (fun args W => by simp [go_sem]) b m c
      (fun i u v => ∃ da dc, u = .int .i64 (D.2.getD i (0, [])).1 ∧ v = .slice da (D.2.getD i (0, [])).2.length dc) (fun i => wrBad n (D.2.getD i (0, []))) W1 hm hmc hcm
      (fun i hi => by
        obtain ⟨b', off, cs, hb', _, ⟨da, dn, dc, rfl, hrd⟩, hc⟩ := (hR1.mono hW1).pend.elem (by decide) i (by omega)
        have hg : D.2.getD i (0, []) = D.2[i]'(by omega) := by rw [List.getD_eq_getElem?_getD, List.getElem?_eq_getElem (by omega)]; rfl
        have hdn : (D.2[i]'(by omega)).2.length = dn := by simpa using hrd.len
        exact ⟨b', off, _, _, hb', ⟨da, dc, by rw [hg], by rw [hg, hdn]⟩, hc 0 _ rfl, hc 1 _ rfl⟩)
      (fun i u v W hi ⟨da, dc, hu, hv⟩ hW => by
        subst hu; subst hv
        obtain ⟨h0, h1, h2, -⟩ := box2 (hW1.trans (hW.mono hW1.size))
        have hlen : (D.2.getD i (0, [])).2.length ≤ 70368744177664 := by
          rw [List.getD_eq_getElem?_getD, List.getElem?_eq_getElem (by omega)]
          exact hd _ (List.getElem_mem _)
        exact disk_sane1 _ _ _ _ _ a n cap _ W hn hlen h0 h1 h2)
  have hany : decide (0 ≤ firstI (fun i => wrBad n (D.2.getD i (0, []))) m) = D.2.any (wrBad n) := by
    rw [← hl2]
    exact any_first _ _ _ (fun i hi => by rw [List.getD_eq_getElem?_getD, List.getElem?_eq_getElem hi]; rfl)
  rw [hany] at hcon
  have HCON := Bx.mk hcon
  have HSS := Bx.mk hS
  have hq : ((n % 32 : Nat) : Int) = (n : Int) % 32 := by omega
  clear hcon hany hR1 hr hS hd hl1 hl2
  generalize D.2.any (wrBad n) = bad at *
  by_cases h1 : n % 32 = 0
  · have e1 : (((n : Int) % 32) != 0) = false := by simp; omega
    by_cases h2 : n / 32 ≤ 4096
    · by_cases h3 : m ≤ 100000
      · have E : Bx (saneB D = !bad) := ⟨by rw [HSS.out]; simp [h1, h2, h3]⟩
        clear hq h1
        go_enter Try.func10, Try.ntmps10
        go_wp2_with (first
          | (go_at_call 21; (with_reducible refine (HSEC.out _).mono ?_); rintro e w1 ⟨rfl, hb1⟩; obtain ⟨q0, q1, q2, -⟩ := box2 hb1)
          | (go_at_call 22; (with_reducible refine (HCON.out _ hb1).mono ?_); rintro e w2 ⟨rfl, hb2⟩))
        go_ret
        exact ⟨by rw [E.out]; rfl, hb.trans ((hb1.trans (hb2.mono hb1.size)).mono (by simp))⟩
      · have E : Bx (saneB D = false) := ⟨by rw [HSS.out]; simp [h3]⟩
        have h3' : 100000 < m := by omega
        clear hq h1 h3
        go_enter Try.func10, Try.ntmps10
        go_wp2_with (first
          | (go_at_call 21; (with_reducible refine (HSEC.out _).mono ?_); rintro e w1 ⟨rfl, hb1⟩; obtain ⟨q0, q1, q2, -⟩ := box2 hb1)
          | (go_at_call 22; (with_reducible refine (HCON.out _ hb1).mono ?_); rintro e w2 ⟨rfl, hb2⟩))
        go_ret
        exact ⟨by rw [E.out]; rfl, hb.trans (hb1.mono (by simp))⟩
    · have E : Bx (saneB D = false) := ⟨by rw [HSS.out]; simp [h2]⟩
      have h2' : 4096 < n / 32 := by omega
      clear hq h1 h2
      go_enter Try.func10, Try.ntmps10
      go_wp2_with (first
      | (go_at_call 21; (with_reducible refine (HSEC.out _).mono ?_); rintro e w1 ⟨rfl, hb1⟩; obtain ⟨q0, q1, q2, -⟩ := box2 hb1)
      | (go_at_call 22; (with_reducible refine (HCON.out _ hb1).mono ?_); rintro e w2 ⟨rfl, hb2⟩))
      go_ret
      exact ⟨by rw [E.out]; rfl, hb.trans (hb1.mono (by simp))⟩
  · have e1 : (((n : Int) % 32) != 0) = true := by simp; omega
    have E : Bx (saneB D = false) := ⟨by rw [HSS.out]; simp [h1]⟩
    clear hq h1
    go_enter Try.func10, Try.ntmps10
    go_wp2
    go_ret
    exact ⟨by rw [E.out]; rfl, hb⟩
end Go.Proofs.Ytjggpdcmjphmmaa
