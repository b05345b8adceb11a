/- The laws of this seat's program on slices of bytes: append, and bytes.Clone. -/
import Derived.Test.YtmlphlljllcclaaProg
import Derived.Test.YtmlphlljllcclaaLib
import Derived.Lib.Hide
import Derived.WalkSpells
namespace Go.Proofs.Ytmlphlljllcclaa
open Go.RowKit Go.Fl

theorem infoU8 : (Try.prog.info? 5).map (fun i => (i.zero, i.size, i.bytes)) = some (some (.int .u8 0), 1, 1) := by kernel_rfl

theorem sizeBytes (W : World) : (sizeOf (Try.prog.elem 23)).run Try.prog W = .ok 1 W := by kernel_rfl
theorem elemBytes : Try.prog.underlying 23 = some (.slice (Try.prog.elem 23)) := by kernel_rfl

/-- Slices of slices of bytes. -/
theorem sl_lh {w : World} {n cap : Nat} {a : Option Addr} {l : List UInt8} (h : Rd w 1 a n cap (bc l)) (lo hi : Int) (k m : Nat) (hk : lo = k) (hm : hi = k + m) (hle : k + m ≤ n) :
    ∃ a' c', (∀ W : World, (Instr.slice 23 (.slice a n cap) (some (.int .i64 lo)) (some (.int .i64 hi)) none).run Try.prog W = .ok (.slice a' m c') W) ∧ Rd w 1 a' m c' (bc ((l.drop k).take m)) := by
  have := Rd.run_lh 23 elemBytes sizeBytes h lo hi k m hk hm hle
  simpa only [Nat.mul_one, bc_take, bc_drop] using this
theorem rd_take {w : World} {n cap : Nat} {a : Option Addr} {l : List UInt8} (h : Rd w 1 a n cap (bc l)) (m : Nat) (hle : m ≤ n) : Rd w 1 a m cap (bc (l.take m)) := by
  have := h.take m hle
  simpa only [Nat.mul_one, bc_take] using this
theorem sl_l {w : World} {n cap : Nat} {a : Option Addr} {l : List UInt8} (h : Rd w 1 a n cap (bc l)) (lo : Int) (k : Nat) (hk : lo = k) (hle : k ≤ n) :
    ∃ a' c', (∀ W : World, (Instr.slice 23 (.slice a n cap) (some (.int .i64 lo)) none none).run Try.prog W = .ok (.slice a' (n - k) c') W) ∧ Rd w 1 a' (n - k) c' (bc (l.drop k)) := by
  have := Rd.run_l 23 elemBytes sizeBytes h lo k hk hle
  simpa only [Nat.mul_one, bc_drop] using this
theorem sl_lhm {w : World} {n cap : Nat} {a : Option Addr} {l : List UInt8} (h : Rd w 1 a n cap (bc l)) (lo hi mx : Int) (k m q : Nat) (hk : lo = k) (hm : hi = k + m) (hq : mx = k + q) (hmq : m ≤ q) (hle : k + m ≤ n) (hqc : k + q ≤ cap) :
    ∃ a', (∀ W : World, (Instr.slice 23 (.slice a n cap) (some (.int .i64 lo)) (some (.int .i64 hi)) (some (.int .i64 mx))).run Try.prog W = .ok (.slice a' m q) W) ∧ Rd w 1 a' m q (bc ((l.drop k).take m)) := by
  have := Rd.run_lhm 23 elemBytes sizeBytes h lo hi mx k m q hk hm hq hmq hle hqc
  simpa only [Nat.mul_one, bc_take, bc_drop] using this

/-- append(s, x...) on bytes, s the call's own. -/
theorem app_bytes {w : World} {ops : Array Oper} {rest : List Oper} {o : Oper} {act : Act} {Q : Exit → Act → World → Prop} (hgd : o.guard = none) (s x : Operand)
    (ho : o.op = .call { callee := .builtin .append, args := #[s, x], argTypes := #[23, 23] })
    (B : Nat) (a : Option Addr) (n cap : Nat) (l : List UInt8) (hs : act.eval s = .slice a n cap) (hown : Own w B 5 1 a n cap (bc l))
    (b : Option Addr) (m c : Nat) (l' : List UInt8) (hx : act.eval x = .slice b m c) (hr : Rd w 1 b m c (bc l'))
    (hn : n + m ≤ 140737488355328) (hbase : B ≤ w.heap.size)
    (h : ∀ a' cap' w', Own w' B 5 1 a' (n + m) cap' (bc (l ++ l')) → w.grownBy w' (Value.slice a n cap).ownBlock → wpList Try.prog ops Q rest (act.put o.dst (.slice a' (n + m) cap')) w') : wpList Try.prog ops Q (o :: rest) act w := by
  obtain ⟨i0, hi, hz0, hz1, hz2⟩ := info_parts infoU8
  exact wpList_append hgd s x 23 ho B 5 i0 (.int .u8 0) 1 1 Try.underlying23 hi hz0 hz1 hz2 rfl (by decide) a n cap (bc l) hs hown b m c (bc l') hx hr (bc_one _) (by omega) hn hbase
    (fun a' cap' w' ho' hg => h a' cap' w' (by rw [bc_append]; exact ho') hg)

/-- A new block of literal bytes reads as they do. -/
theorem rd_lit (w : World) (l : List UInt8) (cs : Array Value) (hc : cs.toList = bc l) (n : Nat) (hn : n = l.length) (hm : n ≤ 70368744177664) :
    Rd (w.alloc (.cells cs 5)) 1 (some ⟨w.heap.size, 0, none⟩) n n (bc l) := by
  have := Own.rd (Own.lit (w := w) (B := 0) 5 1 n cs (Nat.zero_le _) (by unfold maxLen; omega) (by rw [← Array.length_toList, hc]; simp [hn]))
  rwa [hc] at this

theorem own_lit (w : World) (B : Nat) (l : List UInt8) (cs : Array Value) (hc : cs.toList = bc l) (n : Nat) (hn : n = l.length) (hm : n ≤ 70368744177664) (hb : B ≤ w.heap.size) :
    Own (w.alloc (.cells cs 5)) B 5 1 (some ⟨w.heap.size, 0, none⟩) n n (bc l) := by
  have := Own.lit (w := w) (B := B) 5 1 n cs hb (by unfold maxLen; omega) (by rw [← Array.length_toList, hc]; simp [hn])
  rwa [hc] at this

/-- bytes.Clone: a new row of one's own; nil of nil. -/
theorem bytes_clone (a : Option Addr) (n cap : Nat) (l : List UInt8) (w : World) (hr : Rd w 1 a n cap (bc l)) (hn : n ≤ 70368744177664) :
    Calls Try.prog 19 #[.slice a n cap] w fun e w' => ∃ a' cap', e = .returned (.slice a' n cap') ∧ Own w' w.heap.size 5 1 a' n cap' (bc l) ∧ Below w.heap.size w w' := by
  have hmax := hr.max
  have hle := hr.le
  have hlen : l.length = n := by simpa using hr.len
  unfold maxLen at hmax
  have qn := fun (w : World) (a : Option Addr) (n c n' c' : Nat) => Lib.run_eql_slice_nil (P := Try.prog) w 23 5 a n c n' c' Try.underlying23
  cases a with
  | none =>
    have h0 := hr.nul rfl
    obtain rfl : n = 0 := by omega
    obtain rfl : l = [] := List.eq_nil_of_length_eq_zero hlen
    clear hr
    go_enter Try.func19, Try.ntmps19
    go_wp2
    go_ret
    exact ⟨none, 0, rfl, Own.nil _ _ _ _, Below.refl _ _⟩
  | some x =>
    have HL := Bx.mk hlen
    clear hlen
    have hR := hr.mono ((Below.refl w.heap.size w).alloc (Nat.le_refl _) (.cells #[] 5))
    have hO := own_lit w w.heap.size [] #[] rfl 0 rfl (by omega) (Nat.le_refl _)
    go_enter Try.func19, Try.ntmps19
    go_wp2_with (at_builtin; refine app_bytes rfl _ _ rfl w.heap.size _ _ _ [] rfl hO _ _ _ l rfl hR (by omega) (by simp) ?_; rintro a' cap' w' hown hg)
    simp only [Nat.zero_add, List.nil_append] at hown
    have hbel := hO.below ((Below.refl w.heap.size w).alloc (Nat.le_refl _) (.cells #[] 5)) (by simp) hg
    go_wp2
    go_ret
    exact ⟨a', cap', by simp, hown, hbel⟩
end Go.Proofs.Ytmlphlljllcclaa
