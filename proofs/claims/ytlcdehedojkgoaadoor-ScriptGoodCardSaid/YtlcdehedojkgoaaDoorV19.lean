/- From a reading of an argument to values without memory. -/
import Derived.Test.YtlcdehedojkgoaaDoorV18
import Derived.OpenShut
import Derived.ChangeArms
import Derived.DataReads
import Derived.DataElems
namespace Go.Vx
open Go.RowKit Go.Fl Go.WideShapes Go.ChangeShapes
set_option linter.unusedVariables false
set_option linter.unusedSimpArgs false

/-- The kinds of cells. -/
inductive Ck where
  | int (k : IntKind) | bool | str | sl (ag : Bool) (row : List Ck)

/-- What a cell of a kind may be. -/
inductive HasC : Ck → V → Prop
  | int (k : IntKind) (n : Int) (h : k.min ≤ n ∧ n ≤ k.max) : HasC (.int k) (.i k n)
  | bool (b : Bool) : HasC .bool (.b b)
  | str (l : List UInt8) (h : l.length ≤ maxLen) : HasC .str (.s l)
  | sl (ag : Bool) (row : List Ck) (es : List V) (hlen : es.length ≤ maxLen) (h1 : ag = true → ∀ e ∈ es, ∃ vs, e = .agg vs) (h0 : ag = false → ∀ e ∈ es, e.one = true)
      (hcl : ∀ e ∈ es, e.cells.length = row.length) (hh : ∀ e ∈ es, ∀ (j : Nat) c u, row[j]? = some c → e.cells[j]? = some u → HasC c u) : HasC (.sl ag row) (.sl row.length es .no)

inductive All3 (w : World) : List Ck → List V → List Value → Prop
  | nil : All3 w [] [] []
  | cons {k : Ck} {v : V} {c : Value} {r : List Ck} {vs : List V} {cs : List Value} (h1 : HasC k v) (h2 : PRel w (fun _ => True) v c) (h3 : v.one = true) (t : All3 w r vs cs) : All3 w (k :: r) (v :: vs) (c :: cs)

theorem All3.append {w : World} {a a' : List Ck} {b b' : List V} {c c' : List Value} (h : All3 w a b c) (h' : All3 w a' b' c') : All3 w (a ++ a') (b ++ b') (c ++ c') := by
  induction h with
  | nil => exact h'
  | cons h1 h2 h3 _ ih => exact .cons h1 h2 h3 ih
theorem All3.len {w : World} {a : List Ck} {b : List V} {c : List Value} (h : All3 w a b c) : b.length = a.length ∧ c.length = a.length := by
  induction h with
  | nil => exact ⟨rfl, rfl⟩
  | cons _ _ _ _ ih => exact ⟨by simp [ih.1], by simp [ih.2]⟩
theorem All3.get {w : World} {a : List Ck} {b : List V} {c : List Value} (h : All3 w a b c) : ∀ (j : Nat) k v, a[j]? = some k → b[j]? = some v → HasC k v := by
  induction h with
  | nil => intro j k v h; simp at h
  | cons h1 _ _ _ ih =>
    intro j k v hk hv
    cases j with
    | zero => simp only [List.getElem?_cons_zero, Option.some.injEq] at hk hv; subst hk; subst hv; exact h1
    | succ j => exact ih j k v (by simpa using hk) (by simpa using hv)
theorem All3.rel {w : World} {a : List Ck} {b : List V} {c : List Value} (h : All3 w a b c) : ∀ (j : Nat) v d, b[j]? = some v → c[j]? = some d → PRel w (fun _ => True) v d ∧ v.one = true := by
  induction h with
  | nil => intro j v d h; simp at h
  | cons _ h2 h3 _ ih =>
    intro j v d hv hd
    cases j with
    | zero => simp only [List.getElem?_cons_zero, Option.some.injEq] at hv hd; subst hv; subst hd; exact ⟨h2, h3⟩
    | succ j => exact ih j v d (by simpa using hv) (by simpa using hd)

def contig : Nat → List (Nat × List Ck) → Option Nat
  | a, [] => some a
  | a, (o, row) :: r => if o = a then contig (a + row.length) r else none

/-- The cells of a type. -/
def rowOf (P : Program) : Nat → TypeId → Option (Bool × List Ck)
  | 0, _ => none
  | n + 1, t => match P.underlying t with
    | some (.int k) => some (false, [.int k])
    | some .bool => some (false, [.bool])
    | some .string => some (false, [.str])
    | some (.slice e) => match rowOf P n e with
      | some (ag, row) => if P.cellsOf e = row.length then some (false, [.sl ag row]) else none
      | none => none
    | some (.struct fs) => match fs.toList.mapM (fun f => rowOf P n f.type) with
      | some rs => if contig 0 ((fs.toList.map (·.offset)).zip (rs.map (·.2))) = some (P.cellsOf t) ∧ (fs.toList.zip rs).all (fun p => P.cellsOf p.1.type == p.2.2.length) = true then some (true, rs.flatMap (·.2)) else none
      | none => none
    | some (.array m e) => match rowOf P n e with
      | some (_, row) => if P.cellsOf e = row.length ∧ P.cellsOf t = m * row.length then some (true, (List.replicate m row).flatten) else none
      | none => none
    | _ => none

theorem mapM_len {α β : Type} {f : α → Option β} : ∀ {l : List α} {r : List β}, l.mapM f = some r → r.length = l.length ∧ ∀ (i : Nat) (x : α) (y : β), l[i]? = some x → r[i]? = some y → f x = some y
  | [], r, h => by
    simp only [List.mapM_nil, Option.pure_def, Option.some.injEq] at h
    subst h
    exact ⟨rfl, fun i x y h => by simp at h⟩
  | a :: l, r, h => by
    rw [List.mapM_cons] at h
    obtain ⟨b, hb, h⟩ := Option.bind_eq_some_iff.1 h
    obtain ⟨s, hs, h⟩ := Option.bind_eq_some_iff.1 h
    simp only [Option.pure_def, Option.some.injEq] at h
    subst h
    obtain ⟨h1, h2⟩ := mapM_len hs
    refine ⟨by simp [h1], fun i x y hx hy => ?_⟩
    cases i with
    | zero => simp only [List.getElem?_cons_zero, Option.some.injEq] at hx hy; subst hx; subst hy; exact hb
    | succ i => exact h2 i x y (by simpa using hx) (by simpa using hy)

section
variable {H : Type} {enc : TypeId × Value → H} {P : Program} {w : World} {base : Nat} {sp : Nat → Bool} {held : Bool}

theorem fields_row {cs : List Value} {good : List Ck → List Value → Prop} (hg : ∀ row c, good row c → ∃ vs, All3 w row vs c) : ∀ (fs : List (Nat × List Ck)) (a tot : Nat), contig a fs = some tot → cs.length = tot → a ≤ tot →
    (∀ (i : Nat) o row, fs[i]? = some (o, row) → good row ((cs.drop o).take row.length)) → ∃ vs, All3 w (fs.flatMap (·.2)) vs (cs.drop a)
  | [], a, tot, hc, hl, _, _ => by
    simp only [contig, Option.some.injEq] at hc
    refine ⟨[], ?_⟩
    rw [List.drop_eq_nil_of_le (by omega)]
    exact .nil
  | (o, row) :: fs, a, tot, hc, hl, hle, h => by
    simp only [contig] at hc
    split at hc <;> first | (cases hc; done) | skip
    rename_i ho
    subst ho
    obtain ⟨vs, hvs⟩ := hg _ _ (h 0 o row rfl)
    have hlen := hvs.len.2
    have hle' : o + row.length ≤ tot := by
      rw [List.length_take, List.length_drop] at hlen
      omega
    obtain ⟨us, hus⟩ := fields_row hg fs (o + row.length) tot hc hl hle' fun i o' row' hi => h (i + 1) o' row' (by simpa using hi)
    refine ⟨vs ++ us, ?_⟩
    have : cs.drop o = (cs.drop o).take row.length ++ cs.drop (o + row.length) := by rw [← List.drop_drop, List.take_append_drop]
    rw [this]
    exact hvs.append hus

theorem rows_row {cs : List Value} {row : List Ck} {m : Nat} (hl : cs.length = m * row.length) (h : ∀ i, i < m → ∃ vs, All3 w row vs ((cs.drop (i * row.length)).take row.length)) : ∃ vs, All3 w (List.replicate m row).flatten vs cs := by
  have : ∀ k, k ≤ m → ∃ vs, All3 w (List.replicate k row).flatten vs (cs.drop ((m - k) * row.length)) := by
    intro k
    induction k with
    | zero => intro _; refine ⟨[], ?_⟩; rw [List.drop_eq_nil_of_le (by rw [hl]; simp)]; exact .nil
    | succ k ih =>
      intro hk
      obtain ⟨us, hus⟩ := ih (by omega)
      obtain ⟨vs, hvs⟩ := h (m - (k + 1)) (by omega)
      refine ⟨vs ++ us, ?_⟩
      have e : (m - k) * row.length = (m - (k + 1)) * row.length + row.length := by
        rw [← Nat.succ_mul]; congr 1; omega
      have : cs.drop ((m - (k + 1)) * row.length) = (cs.drop ((m - (k + 1)) * row.length)).take row.length ++ cs.drop ((m - k) * row.length) := by
        rw [e, ← List.drop_drop, List.take_append_drop]
      rw [this, List.replicate_succ, List.flatten_cons]
      exact hvs.append hus
  obtain ⟨vs, hvs⟩ := this m (Nat.le_refl _)
  exact ⟨vs, by simpa using hvs⟩

theorem add_add' (a : Addr) (m n : Nat) : (a.add m).add n = a.add (m + n) := Addr.add_add a m n

theorem trod_row : ∀ (n fuel : Nat) (t : TypeId) (cs : List Value) (x : DataW H × List MemPlace) (ag : Bool) (row : List Ck), rowOf P n t = some (ag, row) → DataW.trod enc P w base sp held fuel t cs = some x →
    (∃ vs, All3 w row vs cs) ∧ (ag = false → row.length = 1)
  | 0, _, _, _, _, _, _, h, _ => by simp [rowOf] at h
  | n + 1, fuel, t, cs, x, ag, row, h, hx => by
    unfold rowOf at h
    split at h <;> first | (cases h; done) | skip
    · rename_i k ht
      simp only [Option.some.injEq, Prod.mk.injEq] at h
      obtain ⟨rfl, rfl⟩ := h
      obtain ⟨z, rfl, -, hw⟩ := DataW.trod_int ht hx
      refine ⟨⟨[.i k z], .cons (.int k z ?_) (.i k z) rfl .nil⟩, fun _ => rfl⟩
      simpa [Lit.wf] using hw
    · rename_i ht
      simp only [Option.some.injEq, Prod.mk.injEq] at h
      obtain ⟨rfl, rfl⟩ := h
      obtain ⟨z, rfl, -⟩ := DataW.trod_bool ht hx
      exact ⟨⟨[.b z], .cons (.bool z) (.b z) rfl .nil⟩, fun _ => rfl⟩
    · rename_i ht
      simp only [Option.some.injEq, Prod.mk.injEq] at h
      obtain ⟨rfl, rfl⟩ := h
      obtain ⟨s, rfl, -, hw⟩ := DataW.trod_string ht hx
      have e : bstr s.data.toList = s := by simp [bstr]
      refine ⟨⟨[.s s.data.toList], .cons (.str _ ?_) ?_ rfl .nil⟩, fun _ => rfl⟩
      · rw [← bstr_size, e]; exact hw
      · have := PRel.s (w := w) (S := fun _ => True) s.data.toList
        rwa [e] at this
    · rename_i e ht
      split at h <;> first | (cases h; done) | skip
      rename_i ag' row' hr
      split at h <;> first | (cases h; done) | skip
      rename_i hsz
      simp only [Option.some.injEq, Prod.mk.injEq] at h
      obtain ⟨rfl, rfl⟩ := h
      refine ⟨?_, fun _ => rfl⟩
      rcases DataW.trod_slice ht hx with ⟨rfl, -⟩ | ⟨a, len, cap, elems, rest, m, -, rfl, -, hb, hl, hm, hlen, hel, -, -⟩
      · exact ⟨[.sl row'.length [] .no], .cons (.sl ag' row' [] (Nat.zero_le _) (fun _ e h => by cases h) (fun _ e h => by cases h) (fun e h => by cases h) (fun e h => by cases h))
          (.sl row'.length [] .no none 0 0 (fun _ => default) rfl (Nat.le_refl _) (Nat.zero_le _) (fun _ => rfl) (.inl rfl) (fun j v h => by simp at h) (fun x j v k u _ h => by simp at h) (fun j v k u h => by simp at h)) rfl .nil⟩
      · have each : ∀ i, i < len → ∃ u : V, (ag' = true → ∃ vs, u = .agg vs) ∧ (ag' = false → u.one = true) ∧ u.cells.length = row'.length ∧ (∀ (j : Nat) c v, row'[j]? = some c → u.cells[j]? = some v → HasC c v) ∧
            ∀ (k : Nat) v, u.cells[k]? = some v → v.one = true ∧ ∃ d, w.cell? (a.add (i * row'.length + k)) = some d ∧ PRel w (fun _ => True) v d := by
          intro i hi
          have hi' : i < elems.length := by omega
          have h1 := hel i hi
          rw [List.getElem?_eq_getElem hi'] at h1
          obtain ⟨ds, h2, h3⟩ := Option.bind_eq_some_iff.1 h1
          obtain ⟨⟨vs, hvs⟩, hone⟩ := trod_row n m e ds _ ag' row' hr h3
          obtain ⟨l1, l2⟩ := hvs.len
          obtain ⟨-, h4, h5⟩ := World.cells?_some h2
          have key : ∀ (k : Nat) v, vs[k]? = some v → v.one = true ∧ ∃ d, w.cell? (a.add (i * row'.length + k)) = some d ∧ PRel w (fun _ => True) v d := fun k v hv => by
            have hk : k < ds.length := by have := (List.getElem?_eq_some_iff.1 hv).1; omega
            have hd : ds[k]? = some ds[k] := List.getElem?_eq_getElem hk
            obtain ⟨r1, r2⟩ := hvs.rel k v _ hv hd
            refine ⟨r2, ds[k], ?_, r1⟩
            rw [← add_add', ← hsz, h5 k (by omega), hd]
          cases ag' with
          | true => exact ⟨.agg vs, fun _ => ⟨vs, rfl⟩, (fun h => by cases h), l1, hvs.get, key⟩
          | false =>
            have h1 := hone rfl
            match vs, l1.trans h1 with
            | [v], _ =>
              have hv1 := (key 0 v rfl).1
              have hc := cells_one hv1
              refine ⟨v, (fun h => by cases h), fun _ => hv1, by rw [hc]; exact h1.symm, fun j c u hc' hu => ?_, fun k u hu => ?_⟩
              · rw [hc] at hu; exact hvs.get j c u hc' hu
              · rw [hc] at hu; exact key k u hu
        let f : Nat → V := fun i => if h : i < len then Classical.choose (each i h) else default
        have hf : ∀ i (h : i < len), f i = Classical.choose (each i h) := fun i h => dif_pos h
        have hmem : ∀ u ∈ (List.range len).map f, ∃ i, ∃ h : i < len, u = Classical.choose (each i h) := fun u hu => by
          obtain ⟨i, hi, rfl⟩ := List.mem_map.1 hu
          exact ⟨i, List.mem_range.1 hi, hf i (List.mem_range.1 hi)⟩
        have hget : ∀ (j : Nat) v, ((List.range len).map f)[j]? = some v → ∃ h : j < len, v = Classical.choose (each j h) := fun j v hj => by
          rw [List.getElem?_map] at hj
          obtain ⟨i, hi, rfl⟩ := Option.map_eq_some_iff.1 hj
          obtain ⟨hlt, he⟩ := List.getElem?_eq_some_iff.1 hi
          simp only [List.length_range] at hlt
          simp only [List.getElem_range] at he
          subst he
          exact ⟨hlt, hf _ hlt⟩
        refine ⟨[.sl row'.length ((List.range len).map f) .no], .cons (.sl ag' row' _ (by simp; omega) ?_ ?_ ?_ ?_) (.sl row'.length _ .no (some a) len cap (fun q => (w.cell? (a.add q)).getD default) (by simp) hl hm (fun h => by cases h) (.inl rfl) ?_ ?_ ?_) rfl .nil⟩
        · intro hag u hu
          obtain ⟨i, hi, rfl⟩ := hmem u hu
          exact (Classical.choose_spec (each i hi)).1 hag
        · intro hag u hu
          obtain ⟨i, hi, rfl⟩ := hmem u hu
          exact (Classical.choose_spec (each i hi)).2.1 hag
        · intro u hu
          obtain ⟨i, hi, rfl⟩ := hmem u hu
          exact (Classical.choose_spec (each i hi)).2.2.1
        · intro u hu
          obtain ⟨i, hi, rfl⟩ := hmem u hu
          exact (Classical.choose_spec (each i hi)).2.2.2.1
        · intro j v hj
          obtain ⟨hlt, rfl⟩ := hget j v hj
          exact (Classical.choose_spec (each j hlt)).2.2.1
        · intro y j v k u hy hj hk
          simp only [Option.some.injEq] at hy
          subst hy
          obtain ⟨hlt, rfl⟩ := hget j v hj
          obtain ⟨r1, d, r2, r3⟩ := (Classical.choose_spec (each j hlt)).2.2.2.2 k u hk
          exact ⟨r1, trivial, by rw [r2]; rfl⟩
        · intro j v k u hj hk
          obtain ⟨hlt, rfl⟩ := hget j v hj
          obtain ⟨r1, d, r2, r3⟩ := (Classical.choose_spec (each j hlt)).2.2.2.2 k u hk
          rw [r2]; exact r3
    · rename_i fs ht
      split at h <;> first | (cases h; done) | skip
      rename_i rs hrs
      split at h <;> first | (cases h; done) | skip
      rename_i hc
      simp only [Option.some.injEq, Prod.mk.injEq] at h
      obtain ⟨rfl, rfl⟩ := h
      refine ⟨?_, (fun h => by cases h)⟩
      obtain ⟨xs, m, -, -, hl, hlen, hf⟩ := DataW.trod_struct ht hx
      obtain ⟨q1, q2⟩ := mapM_len hrs
      have hz : ((fs.toList.map (·.offset)).zip (rs.map (·.2))).flatMap (·.2) = rs.flatMap (·.2) := by
        have : ∀ (a : List Nat) (b : List (List Ck)), b.length = a.length → (a.zip b).flatMap (·.2) = b.flatMap id := by
          intro a
          induction a with
          | nil => intro b hb; cases b <;> simp at hb ⊢
          | cons x a ih => intro b hb; cases b with
            | nil => simp at hb
            | cons y b => simp only [List.zip_cons_cons, List.flatMap_cons, id]; rw [ih b (by simpa using hb)]
        rw [this _ _ (by simp [q1])]
        simp [List.flatMap_map]
      obtain ⟨vs, hvs⟩ := fields_row (w := w) (cs := cs) (good := fun row c => ∃ vs, All3 w row vs c) (fun _ _ h => h) _ 0 _ hc.1 hl (Nat.zero_le _) fun i o row hi => by
        rw [List.getElem?_zip_eq_some] at hi
        obtain ⟨h1, h2⟩ := hi
        rw [List.getElem?_map] at h1 h2
        obtain ⟨f, hfi, rfl⟩ := Option.map_eq_some_iff.1 h1
        obtain ⟨⟨ag', row'⟩, hri, rfl⟩ := Option.map_eq_some_iff.1 h2
        have hrow := q2 i f _ hfi hri
        have hfi' : fs[i]? = some f := by rw [← Array.getElem?_toList]; exact hfi
        have hxi := hf i f hfi'
        have hilt : i < xs.length := by rw [hlen]; exact (Array.getElem?_eq_some_iff.1 hfi').1
        rw [List.getElem?_eq_getElem hilt] at hxi
        have hsz : P.cellsOf f.type = row'.length := by
          have := List.all_eq_true.1 hc.2 (f, (ag', row')) (by
            refine List.mem_of_getElem? (i := i) ?_
            rw [List.getElem?_zip_eq_some]; exact ⟨hfi, hri⟩)
          simpa using this
        rw [hsz] at hxi
        exact (trod_row n m f.type _ _ ag' row' hrow hxi).1
      rw [hz, List.drop_zero] at hvs
      exact ⟨vs, hvs⟩
    · rename_i m e ht
      split at h <;> first | (cases h; done) | skip
      rename_i ag' row' hr
      split at h <;> first | (cases h; done) | skip
      rename_i hc
      simp only [Option.some.injEq, Prod.mk.injEq] at h
      obtain ⟨rfl, rfl⟩ := h
      refine ⟨?_, (fun h => by cases h)⟩
      obtain ⟨xs, q, -, -, hl, hlen, hf⟩ := DataW.trod_array ht hx
      refine rows_row (by rw [hl, hc.2]) fun i hi => ?_
      have hxi := hf i hi
      rw [List.getElem?_eq_getElem (by omega), hc.1] at hxi
      exact (trod_row n q e _ _ ag' row' hr hxi).1

/-- What an argument may be. -/
def HasT (ag : Bool) (row : List Ck) (u : V) : Prop := ∃ vs, vs.length = row.length ∧ (∀ (j : Nat) c v, row[j]? = some c → vs[j]? = some v → HasC c v) ∧ (ag = true → u = .agg vs) ∧ (ag = false → vs = [u])

theorem arg_v {base' : Nat} {r : Reach} {n : Nat} {t : TypeId} {v : Value} {d : DataW H} {ps : List MemPlace} {ag : Bool} {row : List Ck} (hr : rowOf P n t = some (ag, row)) (hok : Value.okWide P w r base' t v) (h : DataW.Trod enc P w base sp held t v d ps) :
    ∃ u, HasT ag row u ∧ PRel w (fun _ => True) u v := by
  obtain ⟨fuel, hf⟩ := h
  obtain ⟨⟨vs, hvs⟩, hone⟩ := trod_row n fuel t _ _ ag row hr hf
  have h1 : vs.all V.one = true := List.all_eq_true.2 fun u hu => by
    obtain ⟨j, hj⟩ := List.mem_iff_getElem?.1 hu
    have hlt := (List.getElem?_eq_some_iff.1 hj).1
    obtain ⟨l1, l2⟩ := hvs.len
    exact (hvs.rel j u _ hj (List.getElem?_eq_getElem (by omega))).2
  cases hag : ag with
  | true =>
    have hv : ∃ ds, v = .agg ds := by
      subst hag
      cases n with
      | zero => simp [rowOf] at hr
      | succ n =>
        unfold rowOf at hr
        unfold Value.okWide at hok
        split at hr
        all_goals first
          | (cases hr; done)
          | (rename_i ht; rw [ht] at hok; exact ⟨hok.choose, hok.choose_spec.1⟩)
          | (split at hr <;> first | (cases hr; done) | (split at hr <;> first | (cases hr; done) | (rename_i ht _ _ _ _; rw [ht] at hok; exact ⟨hok.choose, hok.choose_spec.1⟩)))
    obtain ⟨ds, rfl⟩ := hv
    refine ⟨.agg vs, ⟨vs, hvs.len.1, hvs.get, fun _ => rfl, (fun h => by cases h)⟩, .agg vs ds h1 ?_ fun j u d hu hd => ?_⟩
    · have := hvs.len
      simp only [Value.cells, Array.length_toList] at this
      omega
    · exact (hvs.rel j u d hu (by simpa [Value.cells] using hd)).1
  | false =>
    have h2 := hone hag
    obtain ⟨k, rfl⟩ := List.length_eq_one_iff.1 h2
    obtain ⟨u, rfl⟩ := List.length_eq_one_iff.1 hvs.len.1
    · have hl := hvs.len.2
      have hv : v.cells = #[v] := by
        subst hag
        cases n with
        | zero => simp [rowOf] at hr
        | succ n =>
          unfold rowOf at hr
          split at hr
          all_goals first
            | (cases hr; done)
            | (rename_i ht; obtain ⟨_, rfl⟩ := okWide_int ht hok; rfl)
            | (rename_i ht; obtain ⟨_, rfl⟩ := okWide_bool ht hok; rfl)
            | (rename_i ht; obtain ⟨_, rfl⟩ := okWide_string ht hok; rfl)
            | (rename_i ht; obtain ⟨_, _, _, rfl⟩ := okWide_slice ht hok; rfl)
            | (split at hr <;> first | (cases hr; done) | (split at hr <;> cases hr))
      rw [hv] at hvs
      exact ⟨u, ⟨[u], rfl, hvs.get, (fun h => by cases h), fun _ => rfl⟩, (hvs.rel 0 u v rfl rfl).1⟩
end

/-! ### Out of the kinds: numbers, bytes, rows -/
theorem HasC.int' {k : IntKind} {u : V} (h : HasC (.int k) u) : ∃ n, u = .i k n ∧ k.min ≤ n ∧ n ≤ k.max := by
  cases h with
  | int _ n h => exact ⟨n, rfl, h⟩
theorem HasC.bool' {u : V} (h : HasC .bool u) : ∃ b, u = .b b := by
  cases h with
  | bool b => exact ⟨b, rfl⟩
theorem HasC.str' {u : V} (h : HasC .str u) : ∃ l, u = .s l ∧ l.length ≤ maxLen := by
  cases h with
  | str l h => exact ⟨l, rfl, h⟩
theorem HasC.sl' {ag : Bool} {row : List Ck} {u : V} (h : HasC (.sl ag row) u) : ∃ es, u = .sl row.length es .no ∧ es.length ≤ maxLen ∧ ∀ e ∈ es, HasT ag row e := by
  cases h with
  | sl _ _ es hlen h1 h0 hcl hh =>
    refine ⟨es, rfl, hlen, fun e he => ?_⟩
    cases ag with
    | true =>
      obtain ⟨vs, rfl⟩ := h1 rfl e he
      exact ⟨vs, hcl _ he, hh _ he, fun _ => rfl, (fun h => by cases h)⟩
    | false =>
      have := cells_one (h0 rfl e he)
      exact ⟨[e], by rw [← hcl e he, this], fun j c v h1 h2 => hh e he j c v h1 (by rw [this]; exact h2), (fun h => by cases h), fun _ => rfl⟩
theorem HasT.one {k : Ck} {u : V} (h : HasT false [k] u) : HasC k u := by
  obtain ⟨vs, _, h2, _, h4⟩ := h
  have := h4 rfl
  subst this
  exact h2 0 k u rfl rfl
/-- A list out of its parts. -/
theorem list_of {α : Type} {enc : α → V} : ∀ {es : List V}, (∀ e ∈ es, ∃ x : α, e = enc x) → ∃ l : List α, es = l.map enc
  | [], _ => ⟨[], rfl⟩
  | e :: es, h => by
    obtain ⟨x, hx⟩ := h e (by simp)
    obtain ⟨l, hl⟩ := list_of (enc := enc) (es := es) fun e he => h e (by simp [he])
    exact ⟨x :: l, by simp [hx, hl]⟩
theorem list_of' {α : Type} {enc : α → V} {Q : α → Prop} : ∀ {es : List V}, (∀ e ∈ es, ∃ x : α, e = enc x ∧ Q x) → ∃ l : List α, es = l.map enc ∧ ∀ x ∈ l, Q x
  | [], _ => ⟨[], rfl, fun x h => by cases h⟩
  | e :: es, h => by
    obtain ⟨x, hx, hq⟩ := h e (by simp)
    obtain ⟨l, hl, hall⟩ := list_of' (enc := enc) (Q := Q) (es := es) fun e he => h e (by simp [he])
    refine ⟨x :: l, by simp [hx, hl], fun y hy => ?_⟩
    rcases List.mem_cons.1 hy with rfl | hy
    · exact hq
    · exact hall y hy
theorem HasC.u8 {u : V} (h : HasC (.int .u8) u) : ∃ c : UInt8, u = .i .u8 (c.toNat : Int) := by
  obtain ⟨n, rfl, h0, h1⟩ := h.int'
  have h0 : (0 : Int) ≤ n := h0
  have h1 : n ≤ 255 := h1
  refine ⟨UInt8.ofNat n.toNat, ?_⟩
  have : (UInt8.ofNat n.toNat).toNat = n.toNat := by simp; omega
  rw [this]; congr 1; omega
theorem HasC.bytes {u : V} (h : HasC (.sl false [.int .u8]) u) : ∃ l : List UInt8, u = .sl 1 (bv l) .no ∧ l.length ≤ maxLen := by
  obtain ⟨es, rfl, hl, he⟩ := h.sl'
  obtain ⟨l, rfl⟩ := list_of (enc := fun c : UInt8 => V.i .u8 (c.toNat : Int)) fun e h => (he e h).one.u8
  exact ⟨l, rfl, by simpa using hl⟩
theorem HasC.i64 {u : V} (h : HasC (.int .i64) u) : ∃ n : Int, u = .i .i64 n ∧ -9223372036854775808 ≤ n ∧ n ≤ 9223372036854775807 := h.int'
theorem HasC.u32 {u : V} (h : HasC (.int .u32) u) : ∃ n : Int, u = .i .u32 n ∧ 0 ≤ n ∧ n ≤ 4294967295 := h.int'
theorem HasC.u64 {u : V} (h : HasC (.int .u64) u) : ∃ n : Int, u = .i .u64 n ∧ 0 ≤ n ∧ n ≤ 18446744073709551615 := h.int'
end Go.Vx
