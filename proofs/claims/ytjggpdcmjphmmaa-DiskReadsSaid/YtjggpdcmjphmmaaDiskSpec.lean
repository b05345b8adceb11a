/- The disk, plainly: what it holds, whether it may be, what is written over. -/
import Derived.Test.YtjggpdcmjphmmaaLibL
import Derived.Laws.CopyOwn
namespace Go.Fl
open Go.RowKit

abbrev Wr := Int × List UInt8
abbrev Dk := List UInt8 × List Wr

def hasB (n : Nat) (at_ : Int) : Bool := decide (0 ≤ at_ ∧ at_ < ((n / 32 : Nat) : Int))
def wrBad (n : Nat) (x : Wr) : Bool := decide (x.2.length ≠ 32) || !hasB n x.1
def saneB (D : Dk) : Bool := decide (D.1.length % 32 = 0 ∧ D.1.length / 32 ≤ 4096 ∧ D.2.length ≤ 100000) && !(D.2.any (wrBad D.1.length))
def saneOr (D : Dk) : Dk := if saneB D then D else ([], [])
def laid (many : Nat → Nat) : Nat → List Wr → List UInt8 → List UInt8
  | _, [], cur => cur
  | i, x :: r, cur => laid many (i + 1) r (splice cur (32 * x.1.toNat) (x.2.take (many i)))
def bytesD (D : Dk) : List UInt8 := laid (fun _ => 32) 0 D.2 D.1
def planN (plan : List UInt8) (i : Nat) : Nat := min 32 (plan.getD i 0).toNat
def crashD (D : Dk) (plan : List UInt8) : List UInt8 := laid (planN plan) 0 D.2 D.1

/-- A write, as two cells. -/
def DW (w : World) (cs : List Value) (x : Wr) : Prop := ∃ a n c, cs = [.int .i64 x.1, .slice a n c] ∧ Rd w 1 a n c (bc x.2)
theorem DW.mono {w w' : World} (hb : Below w.heap.size w w') : ∀ cs x, DW w cs x → DW w' cs x := by
  rintro cs x ⟨a, n, c, rfl, hr⟩
  exact ⟨a, n, c, rfl, hr.mono hb⟩

/-- A disk: the two slices of its value. -/
structure RdD (w : World) (a : Option Addr) (n cap : Nat) (b : Option Addr) (m c : Nat) (D : Dk) : Prop where
  base : Rd w 1 a n cap (bc D.1)
  pend : RdL DW w 2 b m c D.2
theorem RdD.mono {w w' : World} {a : Option Addr} {n cap : Nat} {b : Option Addr} {m c : Nat} {D : Dk} (h : RdD w a n cap b m c D) (hb : Below w.heap.size w w') : RdD w' a n cap b m c D :=
  ⟨h.base.mono hb, h.pend.mono (DW.mono hb) hb⟩
theorem RdD.len {w : World} {a : Option Addr} {n cap : Nat} {b : Option Addr} {m c : Nat} {D : Dk} (h : RdD w a n cap b m c D) : D.1.length = n ∧ D.2.length = m :=
  ⟨by simpa using h.base.len, h.pend.len (by decide)⟩
theorem RdD.none (w : World) (a : Option Addr) (cap : Nat) (h : Rd w 1 a 0 cap []) : RdD w a 0 cap none 0 0 ([], []) := ⟨h, RdL.nil _ _ _⟩

theorem splice_len {α : Type} (L : List α) (off : Nat) (cs : List α) (h : off + cs.length ≤ L.length) : (splice L off cs).length = L.length := length_splice L off cs h

theorem hasB_iff (n : Nat) (k : Int) : hasB n k = true ↔ 0 ≤ k ∧ k < ((n / 32 : Nat) : Int) := by simp [hasB]

/-- What a sane disk's writes are. -/
theorem sane_write {D : Dk} (h : saneB D = true) (i : Nat) (hi : i < D.2.length) : D.2[i].2.length = 32 ∧ 0 ≤ D.2[i].1 ∧ D.2[i].1 < ((D.1.length / 32 : Nat) : Int) := by
  unfold saneB at h
  simp only [Bool.and_eq_true, Bool.not_eq_true'] at h
  have h2 := List.any_eq_false.1 h.2 D.2[i] (List.getElem_mem hi)
  simp only [wrBad, Bool.or_eq_true, decide_eq_true_eq, Bool.not_eq_true', not_or] at h2
  have h3 : hasB D.1.length D.2[i].1 = true := by simpa using h2.2
  rw [hasB_iff] at h3
  exact ⟨by omega, h3.1, h3.2⟩
theorem sane_sizes {D : Dk} (h : saneB D = true) : D.1.length % 32 = 0 ∧ D.1.length / 32 ≤ 4096 ∧ D.2.length ≤ 100000 := by
  unfold saneB at h
  simp only [Bool.and_eq_true, decide_eq_true_eq] at h
  exact h.1
theorem saneOr_sane (D : Dk) : saneB (saneOr D) = true := by
  unfold saneOr
  split
  · assumption
  · rfl

theorem laid_len (many : Nat → Nat) : ∀ (i : Nat) (l : List Wr) (cur : List UInt8), (∀ x ∈ l, x.2.length = 32 ∧ 0 ≤ x.1 ∧ 32 * x.1.toNat + 32 ≤ cur.length) → (laid many i l cur).length = cur.length
  | _, [], _, _ => rfl
  | i, x :: r, cur, h => by
    have h0 := h x (by simp)
    have hs : (splice cur (32 * x.1.toNat) (x.2.take (many i))).length = cur.length := splice_len _ _ _ (by simp; omega)
    rw [laid, laid_len many (i + 1) r _ (fun y hy => by rw [hs]; exact h y (by simp [hy])), hs]
end Go.Fl
