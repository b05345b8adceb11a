/-
  No cell of these rows narrows 'for every input' (looked for: loops, veiled, ifaces, maps, wideKeys, modest, calm, conditions, laid).
  DERIVED. THE GIVEN ROWS OF THIS SEAT. 4 by the template 'for every input the law returns true; each argument reads behind the call as it read before'; 0 by the template 'total and deterministic' (their statements: YtkcapmodgkficaaTotals.lean).
  GIVEN WITH THE SEED: the statements are not yours to turn. If you find one false, say at which input.
  Laid BY PROGRAM, IN A SANDBOX (cutbox-rows.mjs): the forced cells as the released guide's own fill.sh prints them over the translation 0c19ccc886304c44… (all of the seat's roots in one cut). By AI agents, Wed Nov 11 2026. No macro, syntax, notation, axiom, sorry.
-/
import Derived.Test.YtkcapmodgkficaaChecked
import GoSem.Claim
import GoSem.ClaimJoined
import GoSem.ClaimMapViews
import Derived.JoinedTies
import Derived.KernelRfl
namespace Go.Proofs.Ytkcapmodgkficaa
/- THE CELL 'sum', in the pinned program and in every row, IS THE sha256 OF THE DUMP (.gsa) THAT YtkcapmodgkficaaProg.lean LOADS. Nothing in Lean hashes anything: it is a label: what it is worth is what the hold of that sum in a sandbox is worth. -/
noncomputable def Try.pinned : Pinned := { name := "ytkcapmodgkficaa", sum := "0c19ccc886304c448fb26d655f5d256b003456da6456dcf43004becd3e9ac166", checked := Try.checked }
namespace Rows
def none {H : Type} : Left H := { results := [], args := [] }

/-- 'florinlaw08.TxBack': WHATEVER THE INPUT: true; the input reads as it did. -/
def txBackSpec : ChangeSpec := { name := "txBack", fn := fun _ => fun
  | [d1, d2, d3] => { results := [.lit (.bool true)], args := [d1, d2, d3] }
  | _ => none }
def txBackRow : OpenClaim := { program := "ytkcapmodgkficaa", sum := "0c19ccc886304c448fb26d655f5d256b003456da6456dcf43004becd3e9ac166", func := "florin/florinlaw08.TxBack", spec := "txBack", unfollowed := true, recurses := true, apart := false }
def TxBackSaid : Prop := txBackRow.holds Try.pinned (OpenSpec.ofChange txBackSpec)

/-- ITS FALSE NEIGHBOUR: 'it returns false'. Refute it at one input. -/
def txBackWrong : ChangeSpec := { name := "txBack", fn := fun _ => fun
  | [d1, d2, d3] => { results := [.lit (.bool false)], args := [d1, d2, d3] }
  | _ => none }
def TxBackWrongFalsely : Prop := txBackRow.holds Try.pinned (OpenSpec.ofChange txBackWrong)

/-- 'florinlaw08.TxOnce': WHATEVER THE INPUT: true; the input reads as it did. -/
def txOnceSpec : ChangeSpec := { name := "txOnce", fn := fun _ => fun
  | [d] => { results := [.lit (.bool true)], args := [d] }
  | _ => none }
def txOnceRow : OpenClaim := { program := "ytkcapmodgkficaa", sum := "0c19ccc886304c448fb26d655f5d256b003456da6456dcf43004becd3e9ac166", func := "florin/florinlaw08.TxOnce", spec := "txOnce", unfollowed := true, recurses := true, apart := false }
def TxOnceSaid : Prop := txOnceRow.holds Try.pinned (OpenSpec.ofChange txOnceSpec)

/-- ITS FALSE NEIGHBOUR: 'it returns false'. Refute it at one input. -/
def txOnceWrong : ChangeSpec := { name := "txOnce", fn := fun _ => fun
  | [d] => { results := [.lit (.bool false)], args := [d] }
  | _ => none }
def TxOnceWrongFalsely : Prop := txOnceRow.holds Try.pinned (OpenSpec.ofChange txOnceWrong)

/-- 'florinlaw08.TxTouches': WHATEVER THE INPUT: true; the input reads as it did. -/
def txTouchesSpec : ChangeSpec := { name := "txTouches", fn := fun _ => fun
  | [d1, d2, d3, d4] => { results := [.lit (.bool true)], args := [d1, d2, d3, d4] }
  | _ => none }
def txTouchesRow : OpenClaim := { program := "ytkcapmodgkficaa", sum := "0c19ccc886304c448fb26d655f5d256b003456da6456dcf43004becd3e9ac166", func := "florin/florinlaw08.TxTouches", spec := "txTouches", unfollowed := true, recurses := true, apart := false }
def TxTouchesSaid : Prop := txTouchesRow.holds Try.pinned (OpenSpec.ofChange txTouchesSpec)

/-- ITS FALSE NEIGHBOUR: 'it returns false'. Refute it at one input. -/
def txTouchesWrong : ChangeSpec := { name := "txTouches", fn := fun _ => fun
  | [d1, d2, d3, d4] => { results := [.lit (.bool false)], args := [d1, d2, d3, d4] }
  | _ => none }
def TxTouchesWrongFalsely : Prop := txTouchesRow.holds Try.pinned (OpenSpec.ofChange txTouchesWrong)

/-- 'florinlaw08.TxIds': WHATEVER THE INPUT: true; the input reads as it did. -/
def txIdsSpec : ChangeSpec := { name := "txIds", fn := fun _ => fun
  | [d1, d2] => { results := [.lit (.bool true)], args := [d1, d2] }
  | _ => none }
def txIdsRow : OpenClaim := { program := "ytkcapmodgkficaa", sum := "0c19ccc886304c448fb26d655f5d256b003456da6456dcf43004becd3e9ac166", func := "florin/florinlaw08.TxIds", spec := "txIds", unfollowed := true, recurses := true, apart := false }
def TxIdsSaid : Prop := txIdsRow.holds Try.pinned (OpenSpec.ofChange txIdsSpec)

/-- ITS FALSE NEIGHBOUR: 'it returns false'. Refute it at one input. -/
def txIdsWrong : ChangeSpec := { name := "txIds", fn := fun _ => fun
  | [d1, d2] => { results := [.lit (.bool false)], args := [d1, d2] }
  | _ => none }
def TxIdsWrongFalsely : Prop := txIdsRow.holds Try.pinned (OpenSpec.ofChange txIdsWrong)

/- THE SECOND FORM. 'bulk': how many values and letters a reading holds, each counted each time it is reached (what is shared counts as often as it is met; a slice's spare places count too). A statement '..UptoSaid' is the law's where the arguments, and the package variables that the reading takes, are together of bulk at most 1048576: NARROWER than '..Said'. Prove '..Said' where nothing that the law and all that it calls make is longer than what came in: it says more and counts as full. Else prove '..UptoSaid'. A law counts once. -/
mutual
def uptoBulk {H : Type} : DataW H → Nat
  | .lit (.string bytes) => bytes.length + 1
  | .lit _ => 1
  | .nil => 1
  | .ptr d => uptoBulk d + 1
  | .slice elems spare => uptoBulkAll elems + uptoBulkAll spare + 1
  | .agg parts => uptoBulkAll parts + 1
  | .iface _ d => uptoBulk d + 1
  | .map entries => uptoBulkEntries entries + 1
  | .held _ => 1
def uptoBulkAll {H : Type} : List (DataW H) → Nat
  | [] => 0
  | d :: r => uptoBulk d + uptoBulkAll r
def uptoBulkEntries {H : Type} : List (Lit × DataW H) → Nat
  | [] => 0
  | x :: r => uptoBulkEntry x + uptoBulkEntries r
def uptoBulkEntry {H : Type} : Lit × DataW H → Nat
  | (.string bytes, d) => bytes.length + uptoBulk d + 1
  | (_, d) => uptoBulk d + 1
 end
def uptoSmall : (H : Type) → List (DataW H) → Bool := fun _ ds => decide (uptoBulkAll ds ≤ 1048576)
def OpenSpec.upto (s : _root_.Go.ChangeSpec) : _root_.Go.OpenSpec := { _root_.Go.OpenSpec.ofChange s with cond := some uptoSmall }

/-- 'florinlaw08.TxBack', WHERE WHAT IT READS IS OF BULK AT MOST 1048576: true; the input reads as it did. -/
def txBackUptoRow : OpenClaim := { program := "ytkcapmodgkficaa", sum := "0c19ccc886304c448fb26d655f5d256b003456da6456dcf43004becd3e9ac166", func := "florin/florinlaw08.TxBack", spec := "txBack", unfollowed := true, recurses := true, apart := false, narrowed := true }
def TxBackUptoSaid : Prop := txBackUptoRow.holds Try.pinned (OpenSpec.upto txBackSpec)

/-- 'florinlaw08.TxOnce', WHERE WHAT IT READS IS OF BULK AT MOST 1048576: true; the input reads as it did. -/
def txOnceUptoRow : OpenClaim := { program := "ytkcapmodgkficaa", sum := "0c19ccc886304c448fb26d655f5d256b003456da6456dcf43004becd3e9ac166", func := "florin/florinlaw08.TxOnce", spec := "txOnce", unfollowed := true, recurses := true, apart := false, narrowed := true }
def TxOnceUptoSaid : Prop := txOnceUptoRow.holds Try.pinned (OpenSpec.upto txOnceSpec)

/-- 'florinlaw08.TxTouches', WHERE WHAT IT READS IS OF BULK AT MOST 1048576: true; the input reads as it did. -/
def txTouchesUptoRow : OpenClaim := { program := "ytkcapmodgkficaa", sum := "0c19ccc886304c448fb26d655f5d256b003456da6456dcf43004becd3e9ac166", func := "florin/florinlaw08.TxTouches", spec := "txTouches", unfollowed := true, recurses := true, apart := false, narrowed := true }
def TxTouchesUptoSaid : Prop := txTouchesUptoRow.holds Try.pinned (OpenSpec.upto txTouchesSpec)

/-- 'florinlaw08.TxIds', WHERE WHAT IT READS IS OF BULK AT MOST 1048576: true; the input reads as it did. -/
def txIdsUptoRow : OpenClaim := { program := "ytkcapmodgkficaa", sum := "0c19ccc886304c448fb26d655f5d256b003456da6456dcf43004becd3e9ac166", func := "florin/florinlaw08.TxIds", spec := "txIds", unfollowed := true, recurses := true, apart := false, narrowed := true }
def TxIdsUptoSaid : Prop := txIdsUptoRow.holds Try.pinned (OpenSpec.upto txIdsSpec)

end Rows
end Go.Proofs.Ytkcapmodgkficaa
