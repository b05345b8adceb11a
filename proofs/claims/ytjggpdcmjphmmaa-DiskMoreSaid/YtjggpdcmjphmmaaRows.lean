/-
  No cell of these rows narrows 'for every input' (looked for: loops, veiled, ifaces, maps, wideKeys, modest, calm, conditions, laid).
  DERIVED. THE GIVEN ROWS OF THIS SEAT. 5 by the template 'for every input the law returns true; each argument reads behind the call as it read before'; 0 by the template 'total and deterministic' (their statements: YtjggpdcmjphmmaaTotals.lean).
  GIVEN WITH THE SEED: the statements are not yours to turn. If you find one false, say at which input.
  Laid BY PROGRAM, IN A SANDBOX (cutbox-rows.mjs): the forced cells as the released guide's own fill.sh prints them over the translation bf152dc9d79f8722… (all of the seat's roots in one cut). By AI agents, Wed Nov 11 2026. No macro, syntax, notation, axiom, sorry.
-/
import Derived.Test.YtjggpdcmjphmmaaChecked
import GoSem.Claim
import GoSem.ClaimJoined
import GoSem.ClaimMapViews
import Derived.JoinedTies
import Derived.KernelRfl
namespace Go.Proofs.Ytjggpdcmjphmmaa
/- THE CELL 'sum', in the pinned program and in every row, IS THE sha256 OF THE DUMP (.gsa) THAT YtjggpdcmjphmmaaProg.lean LOADS. Nothing in Lean hashes anything: it is a label: what it is worth is what the hold of that sum in a sandbox is worth. -/
noncomputable def Try.pinned : Pinned := { name := "ytjggpdcmjphmmaa", sum := "bf152dc9d79f8722d1fd83a5f34fd666982ccf6444488b0e9cbb3abb7438045d", checked := Try.checked }
namespace Rows
def none {H : Type} : Left H := { results := [], args := [] }

/-- 'florinlaw18.DiskTorn': WHATEVER THE INPUT: true; the input reads as it did. -/
def diskTornSpec : ChangeSpec := { name := "diskTorn", fn := fun _ => fun
  | [d1, d2] => { results := [.lit (.bool true)], args := [d1, d2] }
  | _ => none }
def diskTornRow : OpenClaim := { program := "ytjggpdcmjphmmaa", sum := "bf152dc9d79f8722d1fd83a5f34fd666982ccf6444488b0e9cbb3abb7438045d", func := "florin/florinlaw18.DiskTorn", spec := "diskTorn", unfollowed := true, recurses := true, apart := false }
def DiskTornSaid : Prop := diskTornRow.holds Try.pinned (OpenSpec.ofChange diskTornSpec)

/-- ITS FALSE NEIGHBOUR: 'it returns false'. Refute it at one input. -/
def diskTornWrong : ChangeSpec := { name := "diskTorn", fn := fun _ => fun
  | [d1, d2] => { results := [.lit (.bool false)], args := [d1, d2] }
  | _ => none }
def DiskTornWrongFalsely : Prop := diskTornRow.holds Try.pinned (OpenSpec.ofChange diskTornWrong)

/-- 'florinlaw18.DiskSynced': WHATEVER THE INPUT: true; the input reads as it did. -/
def diskSyncedSpec : ChangeSpec := { name := "diskSynced", fn := fun _ => fun
  | [d1, d2] => { results := [.lit (.bool true)], args := [d1, d2] }
  | _ => none }
def diskSyncedRow : OpenClaim := { program := "ytjggpdcmjphmmaa", sum := "bf152dc9d79f8722d1fd83a5f34fd666982ccf6444488b0e9cbb3abb7438045d", func := "florin/florinlaw18.DiskSynced", spec := "diskSynced", unfollowed := true, recurses := true, apart := false }
def DiskSyncedSaid : Prop := diskSyncedRow.holds Try.pinned (OpenSpec.ofChange diskSyncedSpec)

/-- ITS FALSE NEIGHBOUR: 'it returns false'. Refute it at one input. -/
def diskSyncedWrong : ChangeSpec := { name := "diskSynced", fn := fun _ => fun
  | [d1, d2] => { results := [.lit (.bool false)], args := [d1, d2] }
  | _ => none }
def DiskSyncedWrongFalsely : Prop := diskSyncedRow.holds Try.pinned (OpenSpec.ofChange diskSyncedWrong)

/-- 'florinlaw18.DiskMore': WHATEVER THE INPUT: true; the input reads as it did. -/
def diskMoreSpec : ChangeSpec := { name := "diskMore", fn := fun _ => fun
  | [d1, d2, d3, d4] => { results := [.lit (.bool true)], args := [d1, d2, d3, d4] }
  | _ => none }
def diskMoreRow : OpenClaim := { program := "ytjggpdcmjphmmaa", sum := "bf152dc9d79f8722d1fd83a5f34fd666982ccf6444488b0e9cbb3abb7438045d", func := "florin/florinlaw18.DiskMore", spec := "diskMore", unfollowed := true, recurses := true, apart := false }
def DiskMoreSaid : Prop := diskMoreRow.holds Try.pinned (OpenSpec.ofChange diskMoreSpec)

/-- ITS FALSE NEIGHBOUR: 'it returns false'. Refute it at one input. -/
def diskMoreWrong : ChangeSpec := { name := "diskMore", fn := fun _ => fun
  | [d1, d2, d3, d4] => { results := [.lit (.bool false)], args := [d1, d2, d3, d4] }
  | _ => none }
def DiskMoreWrongFalsely : Prop := diskMoreRow.holds Try.pinned (OpenSpec.ofChange diskMoreWrong)

/-- 'florinlaw18.DiskRow': WHATEVER THE INPUT: true; the input reads as it did. -/
def diskRowSpec : ChangeSpec := { name := "diskRow", fn := fun _ => fun
  | [d1, d2, d3, d4] => { results := [.lit (.bool true)], args := [d1, d2, d3, d4] }
  | _ => none }
def diskRowRow : OpenClaim := { program := "ytjggpdcmjphmmaa", sum := "bf152dc9d79f8722d1fd83a5f34fd666982ccf6444488b0e9cbb3abb7438045d", func := "florin/florinlaw18.DiskRow", spec := "diskRow", unfollowed := true, recurses := true, apart := false }
def DiskRowSaid : Prop := diskRowRow.holds Try.pinned (OpenSpec.ofChange diskRowSpec)

/-- ITS FALSE NEIGHBOUR: 'it returns false'. Refute it at one input. -/
def diskRowWrong : ChangeSpec := { name := "diskRow", fn := fun _ => fun
  | [d1, d2, d3, d4] => { results := [.lit (.bool false)], args := [d1, d2, d3, d4] }
  | _ => none }
def DiskRowWrongFalsely : Prop := diskRowRow.holds Try.pinned (OpenSpec.ofChange diskRowWrong)

/-- 'florinlaw18.DiskReads': WHATEVER THE INPUT: true; the input reads as it did. -/
def diskReadsSpec : ChangeSpec := { name := "diskReads", fn := fun _ => fun
  | [d1, d2, d3, d4] => { results := [.lit (.bool true)], args := [d1, d2, d3, d4] }
  | _ => none }
def diskReadsRow : OpenClaim := { program := "ytjggpdcmjphmmaa", sum := "bf152dc9d79f8722d1fd83a5f34fd666982ccf6444488b0e9cbb3abb7438045d", func := "florin/florinlaw18.DiskReads", spec := "diskReads", unfollowed := true, recurses := true, apart := false }
def DiskReadsSaid : Prop := diskReadsRow.holds Try.pinned (OpenSpec.ofChange diskReadsSpec)

/-- ITS FALSE NEIGHBOUR: 'it returns false'. Refute it at one input. -/
def diskReadsWrong : ChangeSpec := { name := "diskReads", fn := fun _ => fun
  | [d1, d2, d3, d4] => { results := [.lit (.bool false)], args := [d1, d2, d3, d4] }
  | _ => none }
def DiskReadsWrongFalsely : Prop := diskReadsRow.holds Try.pinned (OpenSpec.ofChange diskReadsWrong)

/- THE SECOND FORM. 'bulk': how many values and letters a reading holds, each counted each time it is reached (what is shared counts as often as it is met; a slice's spare places count too). A statement '..UptoSaid' is the law's where the arguments, and the package variables that the reading takes, are together of bulk at most 1048576: NARROWER than '..Said'. Prove '..Said' where nothing that the law and all that it calls make is longer than what came in: it says more and counts as full. Else prove '..UptoSaid'. A law counts once. -/
mutual
def uptoBulk {H : Type} : DataW H → Nat
  | .lit (.string bytes) => bytes.length + 1
  | .lit _ => 1
  | .nil => 1
  | .ptr d => uptoBulk d + 1
  | .slice elems spare => uptoBulkAll elems + uptoBulkAll spare + 1
  | .agg parts => uptoBulkAll parts + 1
  | .iface _ d => uptoBulk d + 1
  | .map entries => uptoBulkEntries entries + 1
  | .held _ => 1
def uptoBulkAll {H : Type} : List (DataW H) → Nat
  | [] => 0
  | d :: r => uptoBulk d + uptoBulkAll r
def uptoBulkEntries {H : Type} : List (Lit × DataW H) → Nat
  | [] => 0
  | x :: r => uptoBulkEntry x + uptoBulkEntries r
def uptoBulkEntry {H : Type} : Lit × DataW H → Nat
  | (.string bytes, d) => bytes.length + uptoBulk d + 1
  | (_, d) => uptoBulk d + 1
 end
def uptoSmall : (H : Type) → List (DataW H) → Bool := fun _ ds => decide (uptoBulkAll ds ≤ 1048576)
def OpenSpec.upto (s : _root_.Go.ChangeSpec) : _root_.Go.OpenSpec := { _root_.Go.OpenSpec.ofChange s with cond := some uptoSmall }

/-- 'florinlaw18.DiskTorn', WHERE WHAT IT READS IS OF BULK AT MOST 1048576: true; the input reads as it did. -/
def diskTornUptoRow : OpenClaim := { program := "ytjggpdcmjphmmaa", sum := "bf152dc9d79f8722d1fd83a5f34fd666982ccf6444488b0e9cbb3abb7438045d", func := "florin/florinlaw18.DiskTorn", spec := "diskTorn", unfollowed := true, recurses := true, apart := false, narrowed := true }
def DiskTornUptoSaid : Prop := diskTornUptoRow.holds Try.pinned (OpenSpec.upto diskTornSpec)

/-- 'florinlaw18.DiskSynced', WHERE WHAT IT READS IS OF BULK AT MOST 1048576: true; the input reads as it did. -/
def diskSyncedUptoRow : OpenClaim := { program := "ytjggpdcmjphmmaa", sum := "bf152dc9d79f8722d1fd83a5f34fd666982ccf6444488b0e9cbb3abb7438045d", func := "florin/florinlaw18.DiskSynced", spec := "diskSynced", unfollowed := true, recurses := true, apart := false, narrowed := true }
def DiskSyncedUptoSaid : Prop := diskSyncedUptoRow.holds Try.pinned (OpenSpec.upto diskSyncedSpec)

/-- 'florinlaw18.DiskMore', WHERE WHAT IT READS IS OF BULK AT MOST 1048576: true; the input reads as it did. -/
def diskMoreUptoRow : OpenClaim := { program := "ytjggpdcmjphmmaa", sum := "bf152dc9d79f8722d1fd83a5f34fd666982ccf6444488b0e9cbb3abb7438045d", func := "florin/florinlaw18.DiskMore", spec := "diskMore", unfollowed := true, recurses := true, apart := false, narrowed := true }
def DiskMoreUptoSaid : Prop := diskMoreUptoRow.holds Try.pinned (OpenSpec.upto diskMoreSpec)

/-- 'florinlaw18.DiskRow', WHERE WHAT IT READS IS OF BULK AT MOST 1048576: true; the input reads as it did. -/
def diskRowUptoRow : OpenClaim := { program := "ytjggpdcmjphmmaa", sum := "bf152dc9d79f8722d1fd83a5f34fd666982ccf6444488b0e9cbb3abb7438045d", func := "florin/florinlaw18.DiskRow", spec := "diskRow", unfollowed := true, recurses := true, apart := false, narrowed := true }
def DiskRowUptoSaid : Prop := diskRowUptoRow.holds Try.pinned (OpenSpec.upto diskRowSpec)

/-- 'florinlaw18.DiskReads', WHERE WHAT IT READS IS OF BULK AT MOST 1048576: true; the input reads as it did. -/
def diskReadsUptoRow : OpenClaim := { program := "ytjggpdcmjphmmaa", sum := "bf152dc9d79f8722d1fd83a5f34fd666982ccf6444488b0e9cbb3abb7438045d", func := "florin/florinlaw18.DiskReads", spec := "diskReads", unfollowed := true, recurses := true, apart := false, narrowed := true }
def DiskReadsUptoSaid : Prop := diskReadsUptoRow.holds Try.pinned (OpenSpec.upto diskReadsSpec)

end Rows
end Go.Proofs.Ytjggpdcmjphmmaa
