/-
  No cell of these rows narrows 'for every input' (looked for: loops, veiled, ifaces, maps, wideKeys, modest, calm, conditions, laid).
  DERIVED. THE GIVEN ROWS OF THIS SEAT. 5 by the template 'for every input the law returns true; each argument reads behind the call as it read before'; 0 by the template 'total and deterministic' (their statements: YtmoclebgbfojmaaTotals.lean).
  GIVEN WITH THE SEED: the statements are not yours to turn. If you find one false, say at which input.
  Laid BY PROGRAM, IN A SANDBOX (cutbox-rows.mjs): the forced cells as the released guide's own fill.sh prints them over the translation 3a475a4bc033ac5e… (all of the seat's roots in one cut). By AI agents, Wed Nov 11 2026. No macro, syntax, notation, axiom, sorry.
-/
import Derived.Test.YtmoclebgbfojmaaChecked
import GoSem.Claim
import GoSem.ClaimJoined
import GoSem.ClaimMapViews
import Derived.JoinedTies
import Derived.KernelRfl
namespace Go.Proofs.Ytmoclebgbfojmaa
/- THE CELL 'sum', in the pinned program and in every row, IS THE sha256 OF THE DUMP (.gsa) THAT YtmoclebgbfojmaaProg.lean LOADS. Nothing in Lean hashes anything: it is a label: what it is worth is what the hold of that sum in a sandbox is worth. -/
noncomputable def Try.pinned : Pinned := { name := "ytmoclebgbfojmaa", sum := "3a475a4bc033ac5e9c0c09c0f1d4f8baebe6b5b1841243524c670bdc62c43e71", checked := Try.checked }
namespace Rows
def none {H : Type} : Left H := { results := [], args := [] }

/-- 'florinlaw14.ClockMiddle': WHATEVER THE INPUT: true; the input reads as it did. -/
def clockMiddleSpec : ChangeSpec := { name := "clockMiddle", fn := fun _ => fun
  | [d1, d2] => { results := [.lit (.bool true)], args := [d1, d2] }
  | _ => none }
def clockMiddleRow : OpenClaim := { program := "ytmoclebgbfojmaa", sum := "3a475a4bc033ac5e9c0c09c0f1d4f8baebe6b5b1841243524c670bdc62c43e71", func := "florin/florinlaw14.ClockMiddle", spec := "clockMiddle", unfollowed := true, recurses := true, apart := false }
def ClockMiddleSaid : Prop := clockMiddleRow.holds Try.pinned (OpenSpec.ofChange clockMiddleSpec)

/-- ITS FALSE NEIGHBOUR: 'it returns false'. Refute it at one input. -/
def clockMiddleWrong : ChangeSpec := { name := "clockMiddle", fn := fun _ => fun
  | [d1, d2] => { results := [.lit (.bool false)], args := [d1, d2] }
  | _ => none }
def ClockMiddleWrongFalsely : Prop := clockMiddleRow.holds Try.pinned (OpenSpec.ofChange clockMiddleWrong)

/-- 'florinlaw14.ClockOrder': WHATEVER THE INPUT: true; the input reads as it did. -/
def clockOrderSpec : ChangeSpec := { name := "clockOrder", fn := fun _ => fun
  | [d1, d2] => { results := [.lit (.bool true)], args := [d1, d2] }
  | _ => none }
def clockOrderRow : OpenClaim := { program := "ytmoclebgbfojmaa", sum := "3a475a4bc033ac5e9c0c09c0f1d4f8baebe6b5b1841243524c670bdc62c43e71", func := "florin/florinlaw14.ClockOrder", spec := "clockOrder", unfollowed := true, recurses := true, apart := false }
def ClockOrderSaid : Prop := clockOrderRow.holds Try.pinned (OpenSpec.ofChange clockOrderSpec)

/-- ITS FALSE NEIGHBOUR: 'it returns false'. Refute it at one input. -/
def clockOrderWrong : ChangeSpec := { name := "clockOrder", fn := fun _ => fun
  | [d1, d2] => { results := [.lit (.bool false)], args := [d1, d2] }
  | _ => none }
def ClockOrderWrongFalsely : Prop := clockOrderRow.holds Try.pinned (OpenSpec.ofChange clockOrderWrong)

/-- 'florinlaw14.ClockMay': WHATEVER THE INPUT: true; the input reads as it did. -/
def clockMaySpec : ChangeSpec := { name := "clockMay", fn := fun _ => fun
  | [d1, d2, d3, d4, d5] => { results := [.lit (.bool true)], args := [d1, d2, d3, d4, d5] }
  | _ => none }
def clockMayRow : OpenClaim := { program := "ytmoclebgbfojmaa", sum := "3a475a4bc033ac5e9c0c09c0f1d4f8baebe6b5b1841243524c670bdc62c43e71", func := "florin/florinlaw14.ClockMay", spec := "clockMay", unfollowed := true, recurses := true, apart := false }
def ClockMaySaid : Prop := clockMayRow.holds Try.pinned (OpenSpec.ofChange clockMaySpec)

/-- ITS FALSE NEIGHBOUR: 'it returns false'. Refute it at one input. -/
def clockMayWrong : ChangeSpec := { name := "clockMay", fn := fun _ => fun
  | [d1, d2, d3, d4, d5] => { results := [.lit (.bool false)], args := [d1, d2, d3, d4, d5] }
  | _ => none }
def ClockMayWrongFalsely : Prop := clockMayRow.holds Try.pinned (OpenSpec.ofChange clockMayWrong)

/-- 'florinlaw14.ClockRises': WHATEVER THE INPUT: true; the input reads as it did. -/
def clockRisesSpec : ChangeSpec := { name := "clockRises", fn := fun _ => fun
  | [d1, d2] => { results := [.lit (.bool true)], args := [d1, d2] }
  | _ => none }
def clockRisesRow : OpenClaim := { program := "ytmoclebgbfojmaa", sum := "3a475a4bc033ac5e9c0c09c0f1d4f8baebe6b5b1841243524c670bdc62c43e71", func := "florin/florinlaw14.ClockRises", spec := "clockRises", unfollowed := true, recurses := true, apart := false }
def ClockRisesSaid : Prop := clockRisesRow.holds Try.pinned (OpenSpec.ofChange clockRisesSpec)

/-- ITS FALSE NEIGHBOUR: 'it returns false'. Refute it at one input. -/
def clockRisesWrong : ChangeSpec := { name := "clockRises", fn := fun _ => fun
  | [d1, d2] => { results := [.lit (.bool false)], args := [d1, d2] }
  | _ => none }
def ClockRisesWrongFalsely : Prop := clockRisesRow.holds Try.pinned (OpenSpec.ofChange clockRisesWrong)

/-- 'florinlaw14.ClockIs': WHATEVER THE INPUT: true; the input reads as it did. -/
def clockIsSpec : ChangeSpec := { name := "clockIs", fn := fun _ => fun
  | [d1, d2, d3, d4, d5] => { results := [.lit (.bool true)], args := [d1, d2, d3, d4, d5] }
  | _ => none }
def clockIsRow : OpenClaim := { program := "ytmoclebgbfojmaa", sum := "3a475a4bc033ac5e9c0c09c0f1d4f8baebe6b5b1841243524c670bdc62c43e71", func := "florin/florinlaw14.ClockIs", spec := "clockIs", unfollowed := true, recurses := true, apart := false }
def ClockIsSaid : Prop := clockIsRow.holds Try.pinned (OpenSpec.ofChange clockIsSpec)

/-- ITS FALSE NEIGHBOUR: 'it returns false'. Refute it at one input. -/
def clockIsWrong : ChangeSpec := { name := "clockIs", fn := fun _ => fun
  | [d1, d2, d3, d4, d5] => { results := [.lit (.bool false)], args := [d1, d2, d3, d4, d5] }
  | _ => none }
def ClockIsWrongFalsely : Prop := clockIsRow.holds Try.pinned (OpenSpec.ofChange clockIsWrong)

/- THE SECOND FORM. 'bulk': how many values and letters a reading holds, each counted each time it is reached (what is shared counts as often as it is met; a slice's spare places count too). A statement '..UptoSaid' is the law's where the arguments, and the package variables that the reading takes, are together of bulk at most 1048576: NARROWER than '..Said'. Prove '..Said' where nothing that the law and all that it calls make is longer than what came in: it says more and counts as full. Else prove '..UptoSaid'. A law counts once. -/
mutual
def uptoBulk {H : Type} : DataW H → Nat
  | .lit (.string bytes) => bytes.length + 1
  | .lit _ => 1
  | .nil => 1
  | .ptr d => uptoBulk d + 1
  | .slice elems spare => uptoBulkAll elems + uptoBulkAll spare + 1
  | .agg parts => uptoBulkAll parts + 1
  | .iface _ d => uptoBulk d + 1
  | .map entries => uptoBulkEntries entries + 1
  | .held _ => 1
def uptoBulkAll {H : Type} : List (DataW H) → Nat
  | [] => 0
  | d :: r => uptoBulk d + uptoBulkAll r
def uptoBulkEntries {H : Type} : List (Lit × DataW H) → Nat
  | [] => 0
  | x :: r => uptoBulkEntry x + uptoBulkEntries r
def uptoBulkEntry {H : Type} : Lit × DataW H → Nat
  | (.string bytes, d) => bytes.length + uptoBulk d + 1
  | (_, d) => uptoBulk d + 1
 end
def uptoSmall : (H : Type) → List (DataW H) → Bool := fun _ ds => decide (uptoBulkAll ds ≤ 1048576)
def OpenSpec.upto (s : _root_.Go.ChangeSpec) : _root_.Go.OpenSpec := { _root_.Go.OpenSpec.ofChange s with cond := some uptoSmall }

/-- 'florinlaw14.ClockMiddle', WHERE WHAT IT READS IS OF BULK AT MOST 1048576: true; the input reads as it did. -/
def clockMiddleUptoRow : OpenClaim := { program := "ytmoclebgbfojmaa", sum := "3a475a4bc033ac5e9c0c09c0f1d4f8baebe6b5b1841243524c670bdc62c43e71", func := "florin/florinlaw14.ClockMiddle", spec := "clockMiddle", unfollowed := true, recurses := true, apart := false, narrowed := true }
def ClockMiddleUptoSaid : Prop := clockMiddleUptoRow.holds Try.pinned (OpenSpec.upto clockMiddleSpec)

/-- 'florinlaw14.ClockOrder', WHERE WHAT IT READS IS OF BULK AT MOST 1048576: true; the input reads as it did. -/
def clockOrderUptoRow : OpenClaim := { program := "ytmoclebgbfojmaa", sum := "3a475a4bc033ac5e9c0c09c0f1d4f8baebe6b5b1841243524c670bdc62c43e71", func := "florin/florinlaw14.ClockOrder", spec := "clockOrder", unfollowed := true, recurses := true, apart := false, narrowed := true }
def ClockOrderUptoSaid : Prop := clockOrderUptoRow.holds Try.pinned (OpenSpec.upto clockOrderSpec)

/-- 'florinlaw14.ClockMay', WHERE WHAT IT READS IS OF BULK AT MOST 1048576: true; the input reads as it did. -/
def clockMayUptoRow : OpenClaim := { program := "ytmoclebgbfojmaa", sum := "3a475a4bc033ac5e9c0c09c0f1d4f8baebe6b5b1841243524c670bdc62c43e71", func := "florin/florinlaw14.ClockMay", spec := "clockMay", unfollowed := true, recurses := true, apart := false, narrowed := true }
def ClockMayUptoSaid : Prop := clockMayUptoRow.holds Try.pinned (OpenSpec.upto clockMaySpec)

/-- 'florinlaw14.ClockRises', WHERE WHAT IT READS IS OF BULK AT MOST 1048576: true; the input reads as it did. -/
def clockRisesUptoRow : OpenClaim := { program := "ytmoclebgbfojmaa", sum := "3a475a4bc033ac5e9c0c09c0f1d4f8baebe6b5b1841243524c670bdc62c43e71", func := "florin/florinlaw14.ClockRises", spec := "clockRises", unfollowed := true, recurses := true, apart := false, narrowed := true }
def ClockRisesUptoSaid : Prop := clockRisesUptoRow.holds Try.pinned (OpenSpec.upto clockRisesSpec)

/-- 'florinlaw14.ClockIs', WHERE WHAT IT READS IS OF BULK AT MOST 1048576: true; the input reads as it did. -/
def clockIsUptoRow : OpenClaim := { program := "ytmoclebgbfojmaa", sum := "3a475a4bc033ac5e9c0c09c0f1d4f8baebe6b5b1841243524c670bdc62c43e71", func := "florin/florinlaw14.ClockIs", spec := "clockIs", unfollowed := true, recurses := true, apart := false, narrowed := true }
def ClockIsUptoSaid : Prop := clockIsUptoRow.holds Try.pinned (OpenSpec.upto clockIsSpec)

end Rows
end Go.Proofs.Ytmoclebgbfojmaa
