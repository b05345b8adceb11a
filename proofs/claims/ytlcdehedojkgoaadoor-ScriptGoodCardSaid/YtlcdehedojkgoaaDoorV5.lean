/- What each operation does to values without memory, more: slicing, conversions, literals, loads. -/
import Derived.Test.YtlcdehedojkgoaaDoorV4
namespace Go.Vx
open Go.RowKit Go.Fl
set_option linter.unusedVariables false
section
variable {P : Program} {C : Cx}

def vbnd (v : Option V) (d : Nat) : Option Nat :=
  match v with
  | none => some d
  | some (.i _ n) => if n < 0 then none else some n.toNat
  | _ => none

theorem vbnd_ok {v : Option V} {c : Option Value} {d n : Nat} (hn : v.isSome = c.isSome) (hv : ∀ x y, v = some x → c = some y → VRel C x y) (h : vbnd v d = some n) : (c = none ∧ n = d) ∨ ∃ k, c = some (.int k n) := by
  unfold vbnd at h
  split at h
  · simp only [Option.some.injEq] at h
    left
    exact ⟨by cases c <;> simp at hn ⊢, h.symm⟩
  · split at h
    · cases h
    · rename_i hz
      simp only [Option.some.injEq] at h
      cases c with
      | none => simp at hn
      | some y =>
        have := (hv _ y rfl rfl).inv_i
        subst this
        right
        exact ⟨_, by rw [← h, Int.toNat_of_nonneg (by omega)]⟩
  · cases h

theorem sliceBounds_ok (isSlice : Bool) (len cap : Nat) (lo hi mx : Option Value) (l h m : Nat) (hl : (lo = none ∧ l = 0) ∨ ∃ k, lo = some (.int k l)) (hh : (hi = none ∧ h = len) ∨ ∃ k, hi = some (.int k h))
    (hm : (mx = none ∧ m = cap) ∨ ∃ k, mx = some (.int k m)) (hmh : mx.isSome = true → hi.isSome = true) (h1 : l ≤ h) (h2 : h ≤ m) (h3 : m ≤ cap) :
    (Instr.sliceBounds isSlice len cap lo hi mx).run P C.w = .ok (l, h, m) C.w := by
  rcases hl with ⟨rfl, rfl⟩ | ⟨kl, rfl⟩ <;> rcases hh with ⟨rfl, rfl⟩ | ⟨kh, rfl⟩ <;> rcases hm with ⟨rfl, rfl⟩ | ⟨km, rfl⟩ <;>
    simp [Instr.sliceBounds, Instr.sliceBound, asIntOf, h1, h2, h3, Int.natCast_nonneg] at hmh ⊢

theorem PRel.sliced {w : World} {S : Addr → Prop} {sz : Nat} {es : List V} {g g' : Gr} {a : Option Addr} {cap : Nat} (h : PRel w S (.sl sz es g) (.slice a es.length cap)) (l k m : Nat) (hl : l ≤ k) (hk : k ≤ es.length) (hm : k ≤ m) (hc : m ≤ cap)
    (hg : g' = .no ∨ (g' = .clip ∧ m = k)) : PRel w S (.sl sz ((es.drop l).take (k - l)) g') (.slice (if m = l then a else a.map (·.add (l * sz))) (k - l) (m - l)) := by
  obtain ⟨a', cap', xs, he, hr, h1, hx, hsz, _⟩ := h.rd
  simp only [Value.slice.injEq] at he
  obtain ⟨rfl, _, rfl⟩ := he
  have hlen : ((es.drop l).take (k - l)).length = k - l := by simp; omega
  have hr' := hr.sliced l k m hl hk hm hc
  have hget : ∀ (j : Nat) v, ((es.drop l).take (k - l))[j]? = some v → j < k - l ∧ es[l + j]? = some v := by
    intro j v hj
    rw [List.getElem?_take] at hj
    split at hj
    · rw [List.getElem?_drop] at hj
      exact ⟨by assumption, hj⟩
    · cases hj
  have hr2 : Rd w sz (if m = l then a else a.map (·.add (l * sz))) ((es.drop l).take (k - l)).length (m - l) ((xs.drop (l * sz)).take ((k - l) * sz)) := by rw [hlen]; exact hr'
  have key := PRel.of_rd (S := S) (g := g') hr2 (by rw [hlen]; rcases hg with h | ⟨h, h'⟩; exact .inl h; exact .inr ⟨h, by omega⟩) (fun j v hj => hsz _ v (hget j v hj).2) (fun j v q u hj hq => ?_) (fun x q hx' hq => ?_)
  · rw [hlen] at key; exact key
  · obtain ⟨hj1, hj2⟩ := hget j v hj
    obtain ⟨ho, c, hc', hp, _⟩ := hx _ v q u hj2 hq
    have hqs : q < sz := by have := (List.getElem?_eq_some_iff.1 hq).1; rw [hsz _ v hj2] at this; exact this
    refine ⟨ho, c, ?_, hp⟩
    have hlt : j * sz + q < (k - l) * sz := Nat.lt_of_lt_of_le (Nat.add_lt_add_left hqs _) (by rw [← Nat.succ_mul]; exact Nat.mul_le_mul_right _ hj1)
    rw [List.getElem?_take, if_pos hlt, List.getElem?_drop, ← Nat.add_assoc, ← Nat.add_mul]
    exact hc'
  · rw [hlen] at hq
    have h0 : 0 < sz := Nat.pos_of_ne_zero fun h => by rw [h] at hq; simp at hq
    have hlk : l < k := by
      rcases Nat.lt_or_ge l k with h | h
      · exact h
      · rw [show k - l = 0 by omega] at hq; simp at hq
    rw [if_neg (by omega)] at hx'
    obtain ⟨y, hy, rfl⟩ := Option.map_eq_some_iff.1 hx'
    have hq1 : q / sz < k - l := Nat.div_lt_of_lt_mul (by rw [Nat.mul_comm]; exact hq)
    have hes : es[l + q / sz]? = some (es[l + q / sz]'(by omega)) := List.getElem?_eq_getElem (by omega)
    have hcs := hsz _ _ hes
    have hcell : (es[l + q / sz]'(by omega)).cells[q % sz]? = some ((es[l + q / sz]'(by omega)).cells[q % sz]'(by rw [hcs]; exact Nat.mod_lt _ h0)) := List.getElem?_eq_getElem (by rw [hcs]; exact Nat.mod_lt _ h0)
    obtain ⟨_, c, _, _, hS⟩ := hx _ _ _ _ hes hcell
    have := hS y hy
    rw [add_add]
    rwa [show (l + q / sz) * sz + q % sz = l * sz + q by rw [Nat.add_mul]; have := flat_index h0 q; omega] at this

def vslice (τ : TypeId → Option TyD) (t : TypeId) (x : V) (lo hi mx : Option V) : Option V :=
  match τ t with
  | some ⟨.sl e, _, _, _⟩ =>
    match τ e with
    | some D => match x with
      | .sl sz es g =>
        match vbnd lo 0, vbnd hi es.length, vbnd mx es.length with
        | some l, some h, some m =>
          if l ≤ h ∧ h ≤ m ∧ m ≤ es.length ∧ (sz = D.sz ∨ es = []) ∧ (mx.isSome = true → hi.isSome = true) then
            some (.sl (if es = [] then D.sz else sz) ((es.drop l).take (h - l)) (if (mx.isSome = true ∧ m = h) ∨ (mx = none ∧ g = .clip ∧ h = es.length) then .clip else .no))
          else none
        | _, _, _ => none
      | .osl o off len cap =>
        match vbnd lo 0, vbnd hi len, vbnd mx cap with
        | some l, some h, some m => if l ≤ h ∧ h ≤ m ∧ m ≤ cap ∧ (l < m ∨ l = 0) ∧ (mx.isSome = true → hi.isSome = true) then some (.osl o (off + l * D.sz) (h - l) (m - l)) else none
        | _, _, _ => none
      | _ => none
    | none => none
  | some ⟨.arr n e, _, _, _⟩ =>
    match τ e, x with
    | some D, .ptr o off =>
      match vbnd lo 0, vbnd hi n, vbnd mx n with
      | some l, some h, some m => if l ≤ h ∧ h ≤ m ∧ m ≤ n ∧ (l < m ∨ l = 0) ∧ n ≤ maxLen ∧ (mx.isSome = true → hi.isSome = true) then some (.osl o (off + l * D.sz) (h - l) (m - l)) else none
      | _, _, _ => none
    | _, _ => none
  | some ⟨.str, _, _, _⟩ =>
    match x, mx with
    | .s s, none =>
      match vbnd lo 0, vbnd hi s.length with
      | some l, some h => if l ≤ h ∧ h ≤ s.length then some (.s ((s.drop l).take (h - l))) else none
      | _, _ => none
    | _, _ => none
  | _ => none

theorem extract_bstr (s : List UInt8) (l h : Nat) : (bstr s).extract l h = bstr ((s.drop l).take (h - l)) := by
  apply ByteArray.ext
  simp [bstr, ByteArray.data_extract, List.extract_toArray, List.extract_eq_take_drop]

theorem vslice_ok {τ : TypeId → Option TyD} (hτ : TyOk P τ) {t : TypeId} {x v : V} {cx : Value} {lo hi mx : Option V} {cl ch cm : Option Value} (hx : VRel C x cx)
    (nl : lo.isSome = cl.isSome) (nh : hi.isSome = ch.isSome) (nm : mx.isSome = cm.isSome)
    (rl : ∀ x y, lo = some x → cl = some y → VRel C x y) (rh : ∀ x y, hi = some x → ch = some y → VRel C x y) (rm : ∀ x y, mx = some x → cm = some y → VRel C x y) (h : vslice τ t x lo hi mx = some v) :
    ∃ c, (Instr.sliceAt t cx cl ch cm).run P C.w = .ok c C.w ∧ VRel C v c := by
  unfold vslice at h
  split at h <;> first | (cases h; done) | skip
  · rename_i e s b z ht
    obtain ⟨d, hd, he⟩ := (hτ t _ ht).underlying
    obtain rfl := tdOf_sl he
    split at h <;> first | (cases h; done) | skip
    rename_i D hD
    split at h <;> first | (cases h; done) | skip
    · rename_i sz es g
      split at h <;> first | (cases h; done) | skip
      rename_i l k m hl hk hm
      split at h <;> first | (cases h; done) | (simp only [Option.some.injEq] at h; subst h)
      rename_i hcond
      obtain ⟨c1, c2, c3, c4, c5⟩ := hcond
      obtain ⟨a, cap, xs, rfl, hr, _⟩ := hx.inv_sl.rd
      have hcap := hr.le
      have bm := vbnd_ok nm rm hm
      have b1 := vbnd_ok nl rl hl
      have b2 := vbnd_ok nh rh hk
      -- the bound that stands in the world
      obtain ⟨m', hm', hkm, hmc, hcl⟩ : ∃ m', ((cm = none ∧ m' = cap) ∨ ∃ kk, cm = some (.int kk m')) ∧ k ≤ m' ∧ m' ≤ cap ∧ (mx.isSome = true → m' = m) := by
        rcases bm with ⟨h1, h2⟩ | ⟨kk, h1⟩
        · exact ⟨cap, .inl ⟨h1, rfl⟩, by omega, Nat.le_refl _, fun hs => by rw [nm, h1] at hs; cases hs⟩
        · exact ⟨m, .inr ⟨kk, h1⟩, c2, by omega, fun _ => rfl⟩
      have hb := sliceBounds_ok (P := P) (C := C) true es.length cap cl ch cm l k m' b1 b2 hm' (by rw [← nm, ← nh]; exact c5) c1 hkm hmc
      have hg2 : ∀ (gg : Gr), gg = (if (mx.isSome = true ∧ m = k) ∨ (mx = none ∧ g = .clip ∧ k = es.length) then Gr.clip else .no) → gg = .no ∨ (gg = .clip ∧ m' = k) := by
        intro gg hgg
        split at hgg
        · rename_i hq
          refine .inr ⟨hgg, ?_⟩
          rcases hq with ⟨q1, q2⟩ | ⟨q1, q2, q3⟩
          · rw [hcl q1, q2]
          · subst q2
            have hcl' := hx.inv_clip
            obtain ⟨_, _, _, e1, _, _, _, _, e2⟩ := hcl'.rd
            simp only [Value.slice.injEq] at e1
            have := e2 rfl
            omega
        · exact .inl hgg
      by_cases hnil : es = []
      · subst hnil
        simp only [List.length_nil] at *
        refine ⟨.slice (if m' = l then a else a.map (·.add (l * D.sz))) (k - l) (m' - l), ?_, .pure _ _ ?_⟩
        · simp [Instr.sliceAt, Instr.slice, run_underlying hd, hb, (hτ _ _ hD).sizeOf]
        · obtain rfl : k = 0 := by omega
          obtain rfl : l = 0 := by omega
          have hp : PRel C.w C.S (.sl D.sz [] .no) (.slice a 0 cap) := .sl D.sz [] .no a 0 cap (fun _ => default) rfl (Nat.zero_le _) hr.max hr.nul (.inl rfl) (fun j v h => by simp at h) (fun x j v k u _ h => by simp at h) (fun j v k u h => by simp at h)
          have := PRel.sliced (g' := (if (mx.isSome = true ∧ m = 0) ∨ (mx = none ∧ g = .clip ∧ 0 = ([] : List V).length) then Gr.clip else .no)) hp 0 0 m' (Nat.le_refl _) (Nat.le_refl _) (Nat.zero_le _) hmc (hg2 _ rfl)
          simpa using this
      · have hsz : sz = D.sz := c4.resolve_right hnil
        subst hsz
        rw [if_neg hnil]
        refine ⟨.slice (if m' = l then a else a.map (·.add (l * D.sz))) (k - l) (m' - l), ?_, .pure _ _ ?_⟩
        · simp [Instr.sliceAt, Instr.slice, run_underlying hd, hb, (hτ _ _ hD).sizeOf]
        · exact PRel.sliced hx.inv_sl l k m' c1 (by omega) hkm hmc (hg2 _ rfl)
    · rename_i o off len cap
      split at h <;> first | (cases h; done) | skip
      rename_i l k m hl hk hm
      split at h <;> first | (cases h; done) | (simp only [Option.some.injEq] at h; subst h)
      rename_i hcond
      obtain ⟨c1, c2, c3, c4, c5⟩ := hcond
      obtain ⟨x, cp, rfl, hmo, hle, hcp, hmax, hy⟩ := hx.inv_osl
      have bm := vbnd_ok nm rm hm
      obtain ⟨m', hm', hkm, hmc, hmm⟩ : ∃ m', ((cm = none ∧ m' = cp) ∨ ∃ kk, cm = some (.int kk m')) ∧ k ≤ m' ∧ m' ≤ cp ∧ m ≤ m' := by
        rcases bm with ⟨h1, h2⟩ | ⟨kk, h1⟩
        · exact ⟨cp, .inl ⟨h1, rfl⟩, by omega, Nat.le_refl _, by omega⟩
        · exact ⟨m, .inr ⟨kk, h1⟩, c2, by omega, Nat.le_refl _⟩
      have hb := sliceBounds_ok (P := P) (C := C) true len cp cl ch cm l k m' (vbnd_ok nl rl hl) (vbnd_ok nh rh hk) hm' (by rw [← nm, ← nh]; exact c5) c1 hkm hmc
      refine ⟨.slice (some (x.add (l * D.sz))) (k - l) (m' - l), ?_, .osl _ _ _ _ _ _ hmo (by omega) (by omega) (by omega) (add_place hy)⟩
      simp only [Instr.sliceAt, Instr.slice, run_underlying hd, hb, (hτ _ _ hD).sizeOf, Sem.run_bind, Result.andThen_ok, Sem.run_pure]
      congr 2
      by_cases hz : m' = l
      · rw [if_pos hz]
        rcases c4 with h | h
        · omega
        · subst h; simp [Addr.add]
      · rw [if_neg hz]; rfl
  · rename_i n e s b z ht
    obtain ⟨d, hd, he⟩ := (hτ t _ ht).underlying
    obtain rfl := tdOf_arr he
    split at h <;> first | (cases h; done) | skip
    rename_i D o off hD
    split at h <;> first | (cases h; done) | skip
    rename_i l k m hl hk hm
    split at h <;> first | (cases h; done) | (simp only [Option.some.injEq] at h; subst h)
    rename_i hcond
    obtain ⟨c1, c2, c3, c4, c6, c5⟩ := hcond
    obtain ⟨x, rfl, hmo, hy⟩ := hx.inv_ptr
    have hb := sliceBounds_ok (P := P) (C := C) false n n cl ch cm l k m (vbnd_ok nl rl hl) (vbnd_ok nh rh hk) (vbnd_ok nm rm hm) (by rw [← nm, ← nh]; exact c5) c1 c2 c3
    refine ⟨.slice (some (x.add (l * D.sz))) (k - l) (m - l), ?_, .osl _ _ _ _ _ _ hmo (by omega) (Nat.le_refl _) (by omega) (add_place hy)⟩
    simp only [Instr.sliceAt, Instr.sureAddr, run_underlying hd, hb, (hτ _ _ hD).sizeOf, Sem.run_bind, Result.andThen_ok, Sem.run_pure]
    congr 3
    by_cases hz : m = l
    · rw [if_pos hz]
      rcases c4 with h | h
      · omega
      · subst h; simp [Addr.add]
    · rw [if_neg hz]
  · rename_i s b z ht
    obtain ⟨d, hd, he⟩ := (hτ t _ ht).underlying
    obtain rfl := tdOf_str he
    split at h <;> first | (cases h; done) | skip
    rename_i s
    split at h <;> first | (cases h; done) | skip
    rename_i l k hl hk
    split at h <;> first | (cases h; done) | (simp only [Option.some.injEq] at h; subst h)
    rename_i hcond
    obtain ⟨c1, c2⟩ := hcond
    obtain rfl := hx.inv_s
    have hcm : cm = none := by cases cm <;> simp at nm ⊢
    subst hcm
    have hb := sliceBounds_ok (P := P) (C := C) false (bstr s).size (bstr s).size cl ch none l k (bstr s).size (vbnd_ok nl rl hl) (by rw [bstr_size]; exact vbnd_ok nh rh hk) (.inl ⟨rfl, rfl⟩) (fun h => by cases h) c1 (by rw [bstr_size]; exact c2) (Nat.le_refl _)
    refine ⟨.string (bstr ((s.drop l).take (k - l))), ?_, .s _⟩
    simp [Instr.sliceAt, Instr.slice, run_underlying hd, hb, extract_bstr]

def vconv (τ : TypeId → Option TyD) (src dst : TypeId) (x : V) : Option V :=
  match τ src, τ dst with
  | some A, some B => match B.d, x with
    | .int k, .i _ n => some (.i k (k.wrap n))
    | .str, .s l => some (.s l)
    | .str, .sl sz es _ => if sz = 1 ∨ es = [] then match A.d with
      | .sl e => match τ e with
        | some ⟨.int .u8, _, _, _⟩ => (unbv es).map .s
        | _ => none
      | _ => none
      else none
    | _, _ => none
  | _, _ => none

theorem vconv_ok {τ : TypeId → Option TyD} (hτ : TyOk P τ) {src dst : TypeId} {x v : V} {cx : Value} (hx : VRel C x cx) (h : vconv τ src dst x = some v) :
    ∃ c, (convert src dst cx).run P C.w = .ok c C.w ∧ VRel C v c := by
  unfold vconv at h
  split at h <;> first | (cases h; done) | skip
  rename_i A B hA hB
  obtain ⟨d1, hd1, he1⟩ := (hτ _ _ hA).underlying
  obtain ⟨d2, hd2, he2⟩ := (hτ _ _ hB).underlying
  split at h <;> first | (cases h; done) | skip
  · rename_i hdd
    simp only [Option.some.injEq] at h; subst h
    obtain rfl := hx.inv_i
    rw [hdd] at he2; obtain rfl := tdOf_int he2
    refine ⟨_, ?_, .i _ _⟩
    simp [convert, run_underlying hd1, run_underlying hd2, Conv.intToInt]
  · rename_i hdd
    simp only [Option.some.injEq] at h; subst h
    obtain rfl := hx.inv_s
    rw [hdd] at he2; obtain rfl := tdOf_str he2
    refine ⟨_, ?_, .s _⟩
    simp [convert, run_underlying hd1, run_underlying hd2]
  · rename_i sz es g hdd
    split at h <;> first | (cases h; done) | skip
    rename_i hsz
    split at h <;> first | (cases h; done) | skip
    rename_i e hda
    split at h <;> first | (cases h; done) | skip
    rename_i ss bb zz hE
    obtain ⟨l, hl, rfl⟩ := Option.map_eq_some_iff.1 h
    obtain rfl := unbv_some hl
    rw [hdd] at he2; obtain rfl := tdOf_str he2
    rw [hda] at he1; obtain rfl := tdOf_sl he1
    obtain ⟨d3, hd3, he3⟩ := (hτ _ _ hE).underlying
    obtain rfl := tdOf_int he3
    have hp : PRel C.w C.S (.sl 1 (bv l) .no) cx := by
      rcases hsz with rfl | h0
      · exact hx.inv_sl
      · obtain rfl : l = [] := by cases l <;> simp [bv] at h0 ⊢
        obtain ⟨a, cap, xs, rfl, hr, _⟩ := hx.inv_sl.rd
        exact .sl 1 [] .no a 0 cap (fun _ => default) rfl (Nat.zero_le _) hr.max hr.nul (.inl rfl) (fun j v h => by simp at h) (fun x j v k u _ h => by simp at h) (fun j v k u h => by simp at h)
    obtain ⟨a, cap, rfl, hr⟩ := hp.bytes
    exact ⟨_, run_convert_rd src e dst hd1 hd3 hd2 hr, .s _⟩
end
end Go.Vx
