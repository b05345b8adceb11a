/- Compact numbers, plainly: what their sizes, their bytes and their readings are, and the laws on these. No program in sight. -/
import Derived.WalkKit
namespace Go.Fl

def leVal : List UInt8 → Nat
  | [] => 0
  | c :: r => c.toNat + 256 * leVal r

def lowB : Nat → Nat → List UInt8
  | 0, _ => []
  | k + 1, n => UInt8.ofNat n :: lowB k (n / 256)

theorem lowB_length (k n : Nat) : (lowB k n).length = k := by
  induction k generalizing n with
  | zero => rfl
  | succ k ih => simp [lowB, ih]

theorem leVal_lt (l : List UInt8) : leVal l < 256 ^ l.length := by
  induction l with
  | nil => simp [leVal]
  | cons c r ih =>
    have := c.toNat_lt
    simp only [leVal, List.length_cons, Nat.pow_succ]
    omega

theorem leVal_lowB (k n : Nat) : leVal (lowB k n) = n % 256 ^ k := by
  induction k generalizing n with
  | zero => simp [lowB, leVal, Nat.mod_one]
  | succ k ih =>
    simp only [lowB, leVal, ih, Nat.pow_succ]
    rw [Nat.mul_comm (256 ^ k) 256, Nat.mod_mul]
    simp

theorem lowB_leVal (l : List UInt8) : lowB l.length (leVal l) = l := by
  induction l with
  | nil => rfl
  | cons c r ih =>
    have := c.toNat_lt
    simp only [List.length_cons, lowB, leVal]
    have h1 : (c.toNat + 256 * leVal r) / 256 = leVal r := by omega
    rw [h1, ih]
    congr 1
    apply UInt8.toNat_inj.1
    simp

theorem lowB_succ (k n : Nat) : lowB (k + 1) n = lowB k n ++ [UInt8.ofNat (n / 256 ^ k)] := by
  induction k generalizing n with
  | zero => simp [lowB]
  | succ k ih =>
    rw [lowB, ih (n / 256)]
    simp only [lowB, List.cons_append, Nat.div_div_eq_div_mul, Nat.pow_succ, Nat.mul_comm 256]

def sizeN (n : Nat) : Nat := if n < 253 then 1 else if n < 65536 then 3 else if n < 4294967296 then 5 else 9
def leadN (s : Nat) : Nat := if s = 3 then 253 else if s = 5 then 254 else 255
def behindN (c : Nat) : Nat := if c = 253 then 2 else if c = 254 then 4 else if c = 255 then 8 else 0

def putN (n : Nat) : List UInt8 := if sizeN n = 1 then [UInt8.ofNat n] else UInt8.ofNat (leadN (sizeN n)) :: lowB (sizeN n - 1) n

/-- What is got: the number, how many bytes, what went wrong. -/
def getN : List UInt8 → Nat × Nat × Nat
  | [] => (0, 0, 1)
  | c :: r =>
    if behindN c.toNat = 0 then (c.toNat, 1, 0)
    else if r.length < behindN c.toNat then (0, 0, 1)
    else if sizeN (leVal (r.take (behindN c.toNat))) ≠ behindN c.toNat + 1 then (0, 0, 2)
    else (leVal (r.take (behindN c.toNat)), behindN c.toNat + 1, 0)

def boundN (l : List UInt8) (most : Nat) : Nat × Nat × Nat :=
  if (getN l).2.2 ≠ 0 then (0, 0, (getN l).2.2)
  else if min most 2147483647 < (getN l).1 then (0, 0, 3)
  else ((getN l).1, (getN l).2.1, 0)

/-- Bytes with their number ahead: the bytes, how many are taken, what went wrong. -/
def bytesN (l : List UInt8) (most : Int) : List UInt8 × Nat × Nat :=
  if (boundN l most.toNat).2.2 ≠ 0 then ([], 0, (boundN l most.toNat).2.2)
  else if most < 0 then ([], 0, 3)
  else if l.length < (boundN l most.toNat).2.1 + (boundN l most.toNat).1 then ([], 0, 1)
  else ((l.drop (boundN l most.toNat).2.1).take (boundN l most.toNat).1, (boundN l most.toNat).2.1 + (boundN l most.toNat).1, 0)

theorem sizeN_cases (n : Nat) : (n < 253 ∧ sizeN n = 1) ∨ (253 ≤ n ∧ n < 65536 ∧ sizeN n = 3) ∨ (65536 ≤ n ∧ n < 4294967296 ∧ sizeN n = 5) ∨ (4294967296 ≤ n ∧ sizeN n = 9) := by
  unfold sizeN
  split
  · omega
  · split
    · omega
    · split <;> omega

theorem sizeN_mono (n m : Nat) (h : n ≤ m) : sizeN n ≤ sizeN m := by
  have := sizeN_cases n
  have := sizeN_cases m
  omega

theorem putN_length (n : Nat) : (putN n).length = sizeN n := by
  have h := sizeN_cases n
  unfold putN
  split
  · simp; omega
  · simp [lowB_length]; omega

theorem behind_lead (n : Nat) (h : sizeN n ≠ 1) : behindN (UInt8.ofNat (leadN (sizeN n))).toNat = sizeN n - 1 := by
  rcases sizeN_cases n with h' | h' | h' | h' <;> simp [behindN, leadN, h'] at h ⊢

theorem getN_putN (n : Nat) (hn : n < 18446744073709551616) (b : List UInt8) : getN (putN n ++ b) = (n, sizeN n, 0) := by
  unfold putN
  split
  · rename_i h
    have hc : n < 253 := by have := sizeN_cases n; omega
    have hm : n % 256 = n := Nat.mod_eq_of_lt (by omega)
    have hb : behindN n = 0 := by unfold behindN; rw [if_neg (by omega), if_neg (by omega), if_neg (by omega)]
    simp [getN, hm, hb, h]
  · rename_i h
    have hl : leVal ((lowB (sizeN n - 1) n ++ b).take (sizeN n - 1)) = n := by
      rw [List.take_append_of_le_length (by simp [lowB_length]), List.take_of_length_le (by simp [lowB_length]), leVal_lowB]
      apply Nat.mod_eq_of_lt
      rcases sizeN_cases n with h' | h' | h' | h'
      · omega
      · rw [h'.2.2]; exact h'.2.1
      · rw [h'.2.2]; exact h'.2.1
      · rw [h'.2]; exact hn
    have h1 : sizeN n - 1 ≠ 0 := by have := sizeN_cases n; omega
    have h2 : sizeN n - 1 + 1 = sizeN n := by omega
    simp only [List.cons_append, getN, behind_lead n h, List.length_append, lowB_length, hl, h1, if_false, h2]
    rw [if_neg (by omega), if_neg (by simp)]

/-- A part that ends too early is short. -/
theorem getN_short (n i : Nat) (h : i < sizeN n) : (getN ((putN n).take i)).2.2 = 1 := by
  cases i with
  | zero => simp [getN]
  | succ i =>
    have h1 : sizeN n ≠ 1 := by omega
    unfold putN
    rw [if_neg h1]
    have h2 : sizeN n - 1 ≠ 0 := by omega
    simp only [List.take_succ_cons, getN, behind_lead n h1, h2, if_false, List.length_take, lowB_length]
    rw [if_pos (by omega)]

theorem behind_le (c : Nat) : behindN c ≤ 8 := by
  unfold behindN
  split
  · omega
  · split
    · omega
    · split <;> omega

theorem getN_bound (l : List UInt8) : (getN l).1 < 18446744073709551616 ∧ (getN l).2.1 ≤ l.length ∧ (getN l).2.2 ≤ 2 ∧ ((getN l).2.2 ≠ 0 → (getN l).1 = 0 ∧ (getN l).2.1 = 0) := by
  cases l with
  | nil => simp [getN]
  | cons c r =>
    have hc := c.toNat_lt
    have hb : behindN c.toNat ≤ 8 := behind_le _
    simp only [getN]
    split
    · simp; omega
    · split
      · simp
      · split
        · simp
        · have hlt := leVal_lt (r.take (behindN c.toNat))
          have h3 : (r.take (behindN c.toNat)).length = behindN c.toNat := by rw [List.length_take]; omega
          rw [h3] at hlt
          have h4 : 256 ^ behindN c.toNat ≤ 256 ^ 8 := Nat.pow_le_pow_right (by omega) hb
          simp
          omega

/-- Of any bytes that are got, just these are put. -/
theorem getN_once (l : List UInt8) (h : (getN l).2.2 = 0) : 1 ≤ (getN l).2.1 ∧ putN (getN l).1 = l.take (getN l).2.1 := by
  cases l with
  | nil => simp [getN] at h
  | cons c r =>
    have hc := c.toNat_lt
    simp only [getN] at h ⊢
    split at h
    · rename_i hb
      rw [if_pos hb]
      have hlt : c.toNat < 253 := by unfold behindN at hb; split at hb; · omega
                                     split at hb; · omega
                                     split at hb <;> omega
      have hs : sizeN c.toNat = 1 := by have := sizeN_cases c.toNat; omega
      simp [putN, hs]
    · rename_i hb
      rw [if_neg hb]
      split at h
      · simp at h
      · rename_i hl
        rw [if_neg hl]
        split at h
        · simp at h
        · rename_i hs
          rw [if_neg hs]
          have hs' : sizeN (leVal (r.take (behindN c.toNat))) = behindN c.toNat + 1 := by simpa using hs
          refine ⟨by simp, ?_⟩
          simp only [putN, hs']
          rw [if_neg (by omega)]
          simp only [Nat.add_sub_cancel, List.take_succ_cons]
          have hlen : (r.take (behindN c.toNat)).length = behindN c.toNat := by rw [List.length_take]; omega
          congr 1
          · apply UInt8.toNat_inj.1
            unfold behindN at hb ⊢
            unfold leadN
            split
            · simp; omega
            · split
              · simp; omega
              · split
                · simp; omega
                · rename_i h1 h2 h3; simp [h1, h2, h3] at hb
          · have := lowB_leVal (r.take (behindN c.toNat))
            rw [hlen] at this
            exact this

/-- Bytes with their number ahead, and more behind. -/
theorem boundN_put (n q : Nat) (hn : n < 18446744073709551616) (r : List UInt8) : boundN (putN n ++ r) q = if min q 2147483647 < n then (0, 0, 3) else (n, sizeN n, 0) := by
  unfold boundN
  rw [getN_putN n hn r]
  simp

theorem bytesN_put (b more : List UInt8) (hn : b.length ≤ 1000) : bytesN (putN b.length ++ b ++ more) b.length = (b, sizeN b.length + b.length, 0) := by
  have h := boundN_put b.length b.length (by omega) (b ++ more)
  rw [if_neg (by omega)] at h
  have hp := putN_length b.length
  unfold bytesN
  rw [List.append_assoc, Int.toNat_natCast, h]
  have h1 : ¬ ((b.length : Int) < 0) := by omega
  have h2 : ¬ (putN b.length ++ (b ++ more)).length < sizeN b.length + b.length := by simp only [List.length_append, hp]; omega
  simp only [ne_eq, not_true_eq_false, if_false, h1, h2]
  rw [← hp, List.drop_left, List.take_left]

theorem bytesN_less (b more : List UInt8) (hn : b.length ≤ 1000) : bytesN (putN b.length ++ b ++ more) ((b.length : Int) - 1) = ([], 0, 3) := by
  have h := boundN_put b.length ((b.length : Int) - 1).toNat (by omega) (b ++ more)
  by_cases h0 : b.length = 0
  · rw [if_neg (by omega)] at h
    have h1 : (b.length : Int) - 1 < 0 := by omega
    unfold bytesN
    rw [List.append_assoc, h]
    simp only [ne_eq, not_true_eq_false, if_false, h1, if_true]
  · rw [if_pos (by omega)] at h
    unfold bytesN
    rw [List.append_assoc, h]
    simp

theorem bytesN_short (b more : List UInt8) (hn : b.length ≤ 1000) : (bytesN ((putN b.length ++ b ++ more).take (sizeN b.length + b.length - 1)) b.length) = ([], 0, 1) := by
  have hp := putN_length b.length
  have hc := sizeN_cases b.length
  rw [List.append_assoc]
  by_cases h0 : b.length = 0
  · have : sizeN b.length + b.length - 1 = 0 := by omega
    rw [this]
    simp [bytesN, boundN, getN]
  · have ht : (putN b.length ++ (b ++ more)).take (sizeN b.length + b.length - 1) = putN b.length ++ b.take (b.length - 1) := by
      rw [List.take_append, hp, List.take_of_length_le (by omega), List.take_append_of_le_length (by omega)]
      congr 2
      omega
    rw [ht]
    have h := boundN_put b.length b.length (by omega) (b.take (b.length - 1))
    rw [if_neg (by omega)] at h
    unfold bytesN
    rw [Int.toNat_natCast, h]
    have h1 : ¬ ((b.length : Int) < 0) := by omega
    have h2 : (putN b.length ++ b.take (b.length - 1)).length < sizeN b.length + b.length := by simp only [List.length_append, hp, List.length_take]; omega
    simp only [ne_eq, not_true_eq_false, if_false, h1, h2, if_true]

/-- One byte more ahead. -/
theorem leVal_step (r : List UInt8) (k j : Nat) (hj : j ≤ k) (h0 : 0 < j) (hr : k ≤ r.length) : leVal ((r.drop (j - 1)).take (k - (j - 1))) = (r[j - 1]'(by omega)).toNat + 256 * leVal ((r.drop j).take (k - j)) := by
  obtain ⟨i, rfl⟩ : ∃ i, j = i + 1 := ⟨j - 1, by omega⟩
  simp only [Nat.add_sub_cancel]
  rw [List.drop_eq_getElem_cons (by omega : i < r.length), show k - i = (k - (i + 1)) + 1 by omega, List.take_succ_cons, leVal]
theorem leVal_lt7 (r : List UInt8) (k j : Nat) (hk : k ≤ 8) (h0 : 0 < j) (hr : k ≤ r.length) : leVal ((r.drop j).take (k - j)) < 72057594037927936 := by
  have hlt := leVal_lt ((r.drop j).take (k - j))
  have hb : ((r.drop j).take (k - j)).length ≤ 7 := by simp; omega
  exact Nat.lt_of_lt_of_le hlt (by
    have : 256 ^ ((r.drop j).take (k - j)).length ≤ 256 ^ 7 := Nat.pow_le_pow_right (by omega) hb
    simpa using this)
theorem leVal_lt8 (r : List UInt8) (k : Nat) (hk : k ≤ 8) (hr : k ≤ r.length) : leVal (r.take k) < 18446744073709551616 := by
  have hlt := leVal_lt (r.take k)
  have hb : (r.take k).length ≤ 8 := by simp; omega
  exact Nat.lt_of_lt_of_le hlt (by
    have : 256 ^ (r.take k).length ≤ 256 ^ 8 := Nat.pow_le_pow_right (by omega) hb
    simpa using this)
end Go.Fl
