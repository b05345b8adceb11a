/- The walks of the disk's New, sane and over. -/
import Derived.Test.YtjggpdcmjphmmaaDiskWalk
namespace Go.Proofs.Ytjggpdcmjphmmaa
open Go.RowKit Go.Fl
set_option linter.unusedSimpArgs false
set_option linter.unusedVariables false

/-- New: so many sectors of nothing. -/
theorem disk_new (k : Int) (q : Nat) (w : World) (hq : (q : Int) = 32 * max 0 (min k 4096)) :
    Calls Try.prog 20 #[.int .i64 k] w fun e w' => ∃ a, e = .returned (.agg #[.slice a q q, .slice none 0 0]) ∧ Rd w' 1 a q q (bc (List.replicate q 0)) ∧ Below w.heap.size w w' := by
  have hb : Below w.heap.size w (w.alloc (.cells #[.slice none 0 0, .slice none 0 0] 31)) := (Below.refl _ _).alloc (Nat.le_refl _) _
  obtain ⟨m, hm, hq', hc⟩ : ∃ m : Int, 0 ≤ m ∧ (q : Int) = 32 * m ∧ ((k ≤ 0 ∧ m = 0) ∨ (0 < k ∧ k ≤ 4096 ∧ m = k) ∨ (4096 < k ∧ m = 4096)) := by
    refine ⟨max 0 (min k 4096), by omega, hq, by omega⟩
  clear hq
  rcases hc with ⟨h, rfl⟩ | ⟨h, h', rfl⟩ | ⟨h, rfl⟩
  all_goals
    go_enter Try.func20, Try.ntmps20
    go_wp2_with (at_make; refine mk_bytes rfl _ _ rfl w.heap.size .i64 .i64 _ _ q rfl rfl (by omega) (by omega) (by omega) (by simp) ?_; rintro w1 ho hbn; obtain ⟨q0, q1, q2, q3, q4⟩ := box2 hbn)
    have hR := ho.rd
    simp only [World.size_alloc] at hR
    refine bodyPost_ret (v := .agg #[.slice (some ⟨w.heap.size + 1, 0, none⟩) q q, .slice none 0 0]) (by simp [results, Try.results20, go_sem, q0, q1, q2, q3, q4]) rfl ⟨_, rfl, ?_, ?_⟩
    · exact (hR.set _ _ (by intro x hx; cases hx; simp)).set _ _ (by intro x hx; cases hx; simp)
    · exact ((hb.trans (hbn.mono (by simp))).setCell (by simp) _).setCell (by simp) _

theorem RdL.set {α : Type} {E : World → List Value → α → Prop} {w : World} {size : Nat} {a : Option Addr} {n cap : Nat} {xs : List α} (h : RdL E w size a n cap xs) (p : Addr) (v : Value) (hE : ∀ cs x, E w cs x → E (w.setCell p v) cs x) (hne : ∀ x, a = some x → x.block ≠ p.block) : RdL E (w.setCell p v) size a n cap xs := by
  obtain ⟨css, hr, he⟩ := h
  exact ⟨css, hr.set p v hne, he.mono hE⟩

/-- sane: the disk itself, or one of nothing. -/
theorem disk_saneOr (a : Option Addr) (n cap : Nat) (b : Option Addr) (m c : Nat) (D : Dk) (w : World) (hr : RdD w a n cap b m c D) (hn : n ≤ 70368744177664) (hm : m ≤ 70368744177664) (hd : ∀ x ∈ D.2, x.2.length ≤ 70368744177664) :
    Calls Try.prog 26 #[.agg #[.slice a n cap, .slice b m c]] w fun e w' => ∃ a' n' cap' b' m' c', e = .returned (.agg #[.slice a' n' cap', .slice b' m' c']) ∧ RdD w' a' n' cap' b' m' c' (saneOr D) ∧ Below w.heap.size w w' := by
  have hb : Below w.heap.size w ((w.alloc (.cells #[.slice a n cap, .slice b m c] 31)).alloc (.cells #[.slice none 0 0, .slice none 0 0] 31)) := ((Below.refl _ _).alloc (Nat.le_refl _) _).alloc (by simp) _
  have HS := Bx.mk (fun W h => disk_sane a n cap b m c D W h hn hm hd)
  have HR := Bx.mk hr
  have hn0 := Bx.mk (fun W => disk_new 0 0 W (by decide))
  cases hs : saneB D with
  | true =>
    have E : Bx (saneOr D = D) := ⟨by simp [saneOr, hs]⟩
    rw [hs] at HS
    clear hs hr
    go_enter Try.func26, Try.ntmps26
    go_wp2_with (go_at_call 10; (with_reducible refine (HS.out _ (HR.out.mono hb)).mono ?_); rintro e w1 ⟨rfl, hb1⟩; obtain ⟨q0, q1, q2, q3, q4⟩ := box2 hb1; obtain ⟨p0, p1, p2, p3, p4⟩ := box2 (((Below.refl _ _).alloc (Nat.le_refl _) _).trans (hb1.mono (by simp))); simp only [World.size_alloc] at q0 q1 q2 q3 q4)
    have hbel := fun u v => ((hb.trans (hb1.mono (by simp; omega))).setCell (p := ⟨w.heap.size + 1, 0, none⟩) (by simp) u).setCell (p := ⟨w.heap.size + 1, 1, none⟩) (by simp) v
    refine bodyPost_ret (v := .agg #[.slice a n cap, .slice b m c]) (by simp [results, Try.results26, go_sem, q0, q1, q2, q3, q4]) rfl ⟨a, n, cap, b, m, c, rfl, ?_, hbel _ _⟩
    rw [E.out]
    exact HR.out.mono (hbel _ _)
  | false =>
    have E : Bx (saneOr D = ([], [])) := ⟨by simp [saneOr, hs]⟩
    rw [hs] at HS
    clear hs hr
    go_enter Try.func26, Try.ntmps26
    go_wp2_with (first
      | (go_at_call 10; (with_reducible refine (HS.out _ (HR.out.mono hb)).mono ?_); rintro e w1 ⟨rfl, hb1⟩)
      | (go_at_call 20; (with_reducible refine (hn0.out _).mono ?_); rintro e w2 ⟨a2, rfl, hr2, hb2⟩; have hb12 := hb1.trans (hb2.mono hb1.size); obtain ⟨q0, q1, q2, q3, q4⟩ := box2 hb12; simp only [World.size_alloc] at q0 q1 q2 q3 q4))
    have hbel := fun u v => ((hb.trans (hb12.mono (by simp; omega))).setCell (p := ⟨w.heap.size + 1, 0, none⟩) (by simp) u).setCell (p := ⟨w.heap.size + 1, 1, none⟩) (by simp) v
    refine bodyPost_ret (v := .agg #[.slice a2 0 0, .slice none 0 0]) (by simp [results, Try.results26, go_sem, q0, q1, q2, q3, q4]) rfl ⟨a2, 0, 0, none, 0, 0, rfl, ?_, hbel _ _⟩
    rw [E.out]
    refine RdD.none _ _ _ ⟨rfl, Nat.le_refl _, Nat.zero_le _, fun _ => rfl, fun x hx j u hu => by simp at hu⟩
end Go.Proofs.Ytjggpdcmjphmmaa
