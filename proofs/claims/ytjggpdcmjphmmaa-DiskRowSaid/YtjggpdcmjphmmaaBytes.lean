/- The laws of this seat's program on slices of bytes: append, and bytes.Clone. -/
import Derived.Test.YtjggpdcmjphmmaaProg
import Derived.Test.YtjggpdcmjphmmaaLib
import Derived.Lib.Hide
import Derived.WalkSpells
namespace Go.Proofs.Ytjggpdcmjphmmaa
open Go.RowKit Go.Fl

theorem infoU8 : (Try.prog.info? 5).map (fun i => (i.zero, i.size, i.bytes)) = some (some (.int .u8 0), 1, 1) := by kernel_rfl

theorem sizeBytes (W : World) : (sizeOf (Try.prog.elem 22)).run Try.prog W = .ok 1 W := by kernel_rfl
theorem elemBytes : Try.prog.underlying 22 = some (.slice (Try.prog.elem 22)) := by kernel_rfl

/-- Slices of slices of bytes. -/
theorem sl_lh {w : World} {n cap : Nat} {a : Option Addr} {l : List UInt8} (h : Rd w 1 a n cap (bc l)) (lo hi : Int) (k m : Nat) (hk : lo = k) (hm : hi = k + m) (hle : k + m ≤ n) :
    ∃ a' c', (∀ W : World, (Instr.slice 22 (.slice a n cap) (some (.int .i64 lo)) (some (.int .i64 hi)) none).run Try.prog W = .ok (.slice a' m c') W) ∧ Rd w 1 a' m c' (bc ((l.drop k).take m)) := by
  have := Rd.run_lh 22 elemBytes sizeBytes h lo hi k m hk hm hle
  simpa only [Nat.mul_one, bc_take, bc_drop] using this
theorem rd_take {w : World} {n cap : Nat} {a : Option Addr} {l : List UInt8} (h : Rd w 1 a n cap (bc l)) (m : Nat) (hle : m ≤ n) : Rd w 1 a m cap (bc (l.take m)) := by
  have := h.take m hle
  simpa only [Nat.mul_one, bc_take] using this
theorem sl_l {w : World} {n cap : Nat} {a : Option Addr} {l : List UInt8} (h : Rd w 1 a n cap (bc l)) (lo : Int) (k : Nat) (hk : lo = k) (hle : k ≤ n) :
    ∃ a' c', (∀ W : World, (Instr.slice 22 (.slice a n cap) (some (.int .i64 lo)) none none).run Try.prog W = .ok (.slice a' (n - k) c') W) ∧ Rd w 1 a' (n - k) c' (bc (l.drop k)) := by
  have := Rd.run_l 22 elemBytes sizeBytes h lo k hk hle
  simpa only [Nat.mul_one, bc_drop] using this
theorem sl_lhm {w : World} {n cap : Nat} {a : Option Addr} {l : List UInt8} (h : Rd w 1 a n cap (bc l)) (lo hi mx : Int) (k m q : Nat) (hk : lo = k) (hm : hi = k + m) (hq : mx = k + q) (hmq : m ≤ q) (hle : k + m ≤ n) (hqc : k + q ≤ cap) :
    ∃ a', (∀ W : World, (Instr.slice 22 (.slice a n cap) (some (.int .i64 lo)) (some (.int .i64 hi)) (some (.int .i64 mx))).run Try.prog W = .ok (.slice a' m q) W) ∧ Rd w 1 a' m q (bc ((l.drop k).take m)) := by
  have := Rd.run_lhm 22 elemBytes sizeBytes h lo hi mx k m q hk hm hq hmq hle hqc
  simpa only [Nat.mul_one, bc_take, bc_drop] using this

/-- append(s, x...) on bytes, s the call's own. -/
theorem app_bytes {w : World} {ops : Array Oper} {rest : List Oper} {o : Oper} {act : Act} {Q : Exit → Act → World → Prop} (hgd : o.guard = none) (s x : Operand)
    (ho : o.op = .call { callee := .builtin .append, args := #[s, x], argTypes := #[22, 22] })
    (B : Nat) (a : Option Addr) (n cap : Nat) (l : List UInt8) (hs : act.eval s = .slice a n cap) (hown : Own w B 5 1 a n cap (bc l))
    (b : Option Addr) (m c : Nat) (l' : List UInt8) (hx : act.eval x = .slice b m c) (hr : Rd w 1 b m c (bc l'))
    (hn : n + m ≤ 140737488355328) (hbase : B ≤ w.heap.size)
    (h : ∀ a' cap' w', Own w' B 5 1 a' (n + m) cap' (bc (l ++ l')) → w.grownBy w' (Value.slice a n cap).ownBlock → wpList Try.prog ops Q rest (act.put o.dst (.slice a' (n + m) cap')) w') : wpList Try.prog ops Q (o :: rest) act w := by
  obtain ⟨i0, hi, hz0, hz1, hz2⟩ := info_parts infoU8
  exact wpList_append hgd s x 22 ho B 5 i0 (.int .u8 0) 1 1 Try.underlying22 hi hz0 hz1 hz2 rfl (by decide) a n cap (bc l) hs hown b m c (bc l') hx hr (bc_one _) (by omega) hn hbase
    (fun a' cap' w' ho' hg => h a' cap' w' (by rw [bc_append]; exact ho') hg)

/-- make([]byte, n): zeros, the call's own. -/
theorem mk_bytes {w : World} {ops : Array Oper} {rest : List Oper} {o : Oper} {act : Act} {Q : Exit → Act → World → Prop} (hgd : o.guard = none) (l c : Operand)
    (hop : o.op = Op.makeSlice 22 l c) (B : Nat) (kl kc : IntKind) (L C : Int) (n : Nat) (hl : act.eval l = .int kl L) (hc : act.eval c = .int kc C) (hL : L = (n : Int)) (hC : C = (n : Int)) (hn : n ≤ 140737488355328) (hb : B ≤ w.heap.size)
    (hK : ∀ w', Own w' B 5 1 (some ⟨w.heap.size, 0, none⟩) n n (bc (List.replicate n 0)) → Below w.heap.size w w' → wpList Try.prog ops Q rest (act.put o.dst (.slice (some ⟨w.heap.size, 0, none⟩) n n)) w') : wpList Try.prog ops Q (o :: rest) act w := by
  obtain ⟨i0, hi, hz0, hz1, hz2⟩ := info_parts infoU8
  refine wpList_make_full w hgd l c 22 hop B 5 i0 (.int .u8 0) 1 Try.underlying22 hi hz0 hz1 kl kc L C n hl hc hL hC (by rw [hz2]; omega) (by unfold maxLen; omega) hb fun w' ho hg => ?_
  refine hK w' ?_ ((Below.refl _ _).grown hg (Nat.le_refl _) fun k h => by cases h)
  have e : (madeCells (Value.int .u8 0).cells (n * 1)).toList = bc (List.replicate n 0) := by
    rw [Nat.mul_one]
    show (madeCells #[Value.int .u8 0] n).toList = _
    rw [toList_madeCells_one]
    simp [bc]
  rw [e] at ho
  exact ho

/-- copy(dst, src) on bytes. -/
theorem cp_bytes {w : World} {ops : Array Oper} {rest : List Oper} {o : Oper} {act : Act} {Q : Exit → Act → World → Prop} (hgd : o.guard = none) (d s : Operand)
    (ho : o.op = .call { callee := .builtin .copy, args := #[d, s], argTypes := #[22, 22] })
    (B g n cap : Nat) (l : List UInt8) (hown : Own w B 5 1 (some ⟨g, 0, none⟩) n cap (bc l)) (off dLen dCap : Nat) (hd : act.eval d = .slice (some ⟨g, off, none⟩) dLen dCap)
    (sa : Option Addr) (q sc : Nat) (l' : List UInt8) (hs : act.eval s = .slice sa q sc) (hr : Rd w 1 sa q sc (bc l')) (hq : q ≤ dLen) (hfit : off + q ≤ n)
    (hK : ∀ w', Own w' B 5 1 (some ⟨g, 0, none⟩) n cap (bc (splice l off l')) → w.grownBy w' (some g) → wpList Try.prog ops Q rest (act.put o.dst (goInt q)) w') : wpList Try.prog ops Q (o :: rest) act w := by
  obtain ⟨i0, hi, hz0, hz1, hz2⟩ := info_parts infoU8
  refine wpList_copy hgd d s 22 22 ho 5 Try.underlying22 (by rw [hi]; simp [hz1]) B 5 g n cap (bc l) hown off dLen dCap hd sa q sc (bc l') hs hr hq hfit (bc_one _) fun w' ho' hg => hK w' ?_ hg
  have e : splice (bc l) off (bc l') = bc (splice l off l') := by simp [splice, bc, List.map_take, List.map_drop]
  rw [e] at ho'
  exact ho'

/-- A new block of literal bytes reads as they do. -/
theorem rd_lit (w : World) (l : List UInt8) (cs : Array Value) (hc : cs.toList = bc l) (n : Nat) (hn : n = l.length) (hm : n ≤ 70368744177664) :
    Rd (w.alloc (.cells cs 5)) 1 (some ⟨w.heap.size, 0, none⟩) n n (bc l) := by
  have := Own.rd (Own.lit (w := w) (B := 0) 5 1 n cs (Nat.zero_le _) (by unfold maxLen; omega) (by rw [← Array.length_toList, hc]; simp [hn]))
  rwa [hc] at this

theorem own_lit (w : World) (B : Nat) (l : List UInt8) (cs : Array Value) (hc : cs.toList = bc l) (n : Nat) (hn : n = l.length) (hm : n ≤ 70368744177664) (hb : B ≤ w.heap.size) :
    Own (w.alloc (.cells cs 5)) B 5 1 (some ⟨w.heap.size, 0, none⟩) n n (bc l) := by
  have := Own.lit (w := w) (B := B) 5 1 n cs hb (by unfold maxLen; omega) (by rw [← Array.length_toList, hc]; simp [hn])
  rwa [hc] at this

/-- bytes.Clone: a new row of one's own; nil of nil. -/
theorem bytes_clone (a : Option Addr) (n cap : Nat) (l : List UInt8) (w : World) (hr : Rd w 1 a n cap (bc l)) (hn : n ≤ 70368744177664) :
    Calls Try.prog 30 #[.slice a n cap] w fun e w' => ∃ a' cap', e = .returned (.slice a' n cap') ∧ Own w' w.heap.size 5 1 a' n cap' (bc l) ∧ Below w.heap.size w w' := by
  have hmax := hr.max
  have hle := hr.le
  have hlen : l.length = n := by simpa using hr.len
  unfold maxLen at hmax
  have qn := fun (w : World) (a : Option Addr) (n c n' c' : Nat) => Lib.run_eql_slice_nil (P := Try.prog) w 22 5 a n c n' c' Try.underlying22
  cases a with
  | none =>
    have h0 := hr.nul rfl
    obtain rfl : n = 0 := by omega
    obtain rfl : l = [] := List.eq_nil_of_length_eq_zero hlen
    clear hr
    go_enter Try.func30, Try.ntmps30
    go_wp2
    go_ret
    exact ⟨none, 0, rfl, Own.nil _ _ _ _, Below.refl _ _⟩
  | some x =>
    have HL := Bx.mk hlen
    clear hlen
    have hR := hr.mono ((Below.refl w.heap.size w).alloc (Nat.le_refl _) (.cells #[] 5))
    have hO := own_lit w w.heap.size [] #[] rfl 0 rfl (by omega) (Nat.le_refl _)
    go_enter Try.func30, Try.ntmps30
    go_wp2_with (at_builtin; refine app_bytes rfl _ _ rfl w.heap.size _ _ _ [] rfl hO _ _ _ l rfl hR (by omega) (by simp) ?_; rintro a' cap' w' hown hg)
    simp only [Nat.zero_add, List.nil_append] at hown
    have hbel := hO.below ((Below.refl w.heap.size w).alloc (Nat.le_refl _) (.cells #[] 5)) (by simp) hg
    go_wp2
    go_ret
    exact ⟨a', cap', by simp, hown, hbel⟩
end Go.Proofs.Ytjggpdcmjphmmaa
