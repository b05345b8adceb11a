/-
  DERIVED. GIVEN WITH THE SEED: THE CARDS: each row of YtlcdehedojkgoaaDoorRows.lean that lists a variable, with what it lists TIED to the program's text (the seventh form; the later family's looks); each row that meets fmt, with fmt's text TOLD by the authors' own Lean function (tested against real Go, not proved from fmt's source: count such statements apart). THE CARD IS WHAT COUNTS. Prove the row's statement (the work); the ties are given (YtlcdehedojkgoaaDoorTie.lean); close each card by the builder's one call (the guide's Derived/Test/ToyasCard.lean, 'card_holds'). Laid BY PROGRAM, IN A SANDBOX (cutbox-door.mjs). By AI agents, Wed Nov 11 2026. No macro, syntax, notation, axiom, sorry.
-/
import Derived.Test.YtlcdehedojkgoaaDoorRows
import GoSem.ClaimSeven
namespace Go.Proofs.YtlcdehedojkgoaaDoor
namespace Rows

/-- THE TIED CARD OF 'florinlaw23.ScriptIs'. -/
def scriptIsCard : Claim7 := { stood := { row := scriptIsRow, standIns := [], harness := (true, "736305fb52da55def6500c1c0973410683d72ee39e897db24364041400b1cfdc"), looks := false }, kinds := [], alts := [], laidByText := true, laidKinds := [.listed, .data], laidTests := true, laidLooks := .later }
def ScriptIsCardSaid : Prop := Claim7.holds Tryd.pinned (.plain (OpenSpec.ofChange scriptIsSpec)) scriptIsCard

/-- THE TIED CARD OF 'florinlaw23.ScriptBack'. -/
def scriptBackCard : Claim7 := { stood := { row := scriptBackRow, standIns := [], harness := (true, "736305fb52da55def6500c1c0973410683d72ee39e897db24364041400b1cfdc"), looks := false }, kinds := [], alts := [], laidByText := true, laidKinds := [.listed, .data], laidTests := true, laidLooks := .later }
def ScriptBackCardSaid : Prop := Claim7.holds Tryd.pinned (.plain (OpenSpec.ofChange scriptBackSpec)) scriptBackCard

/-- THE TIED CARD OF 'florinlaw23.ScriptGood'. -/
def scriptGoodCard : Claim7 := { stood := { row := scriptGoodRow, standIns := [], harness := (true, "736305fb52da55def6500c1c0973410683d72ee39e897db24364041400b1cfdc"), looks := false }, kinds := [], alts := [], laidByText := true, laidKinds := [.listed, .data], laidTests := true, laidLooks := .later }
def ScriptGoodCardSaid : Prop := Claim7.holds Tryd.pinned (.plain (OpenSpec.ofChange scriptGoodSpec)) scriptGoodCard

/-- THE TIED CARD OF 'florinlaw23.ScriptRows'. -/
def scriptRowsCard : Claim7 := { stood := { row := scriptRowsRow, standIns := [], harness := (true, "736305fb52da55def6500c1c0973410683d72ee39e897db24364041400b1cfdc"), looks := false }, kinds := [], alts := [], laidByText := true, laidKinds := [.listed, .data], laidTests := true, laidLooks := .later }
def ScriptRowsCardSaid : Prop := Claim7.holds Tryd.pinned (.plain (OpenSpec.ofChange scriptRowsSpec)) scriptRowsCard

/-- THE SECOND FORM's CARD OF 'florinlaw23.ScriptIs'. -/
def scriptIsUptoCard : Claim7 := { stood := { row := scriptIsUptoRow, standIns := [], harness := (true, "736305fb52da55def6500c1c0973410683d72ee39e897db24364041400b1cfdc"), looks := false }, kinds := [], alts := [], laidByText := true, laidKinds := [.listed, .data], laidTests := true, laidLooks := .later }
def ScriptIsUptoCardSaid : Prop := Claim7.holds Tryd.pinned (.plain (OpenSpec.upto scriptIsSpec)) scriptIsUptoCard

/-- THE SECOND FORM's CARD OF 'florinlaw23.ScriptBack'. -/
def scriptBackUptoCard : Claim7 := { stood := { row := scriptBackUptoRow, standIns := [], harness := (true, "736305fb52da55def6500c1c0973410683d72ee39e897db24364041400b1cfdc"), looks := false }, kinds := [], alts := [], laidByText := true, laidKinds := [.listed, .data], laidTests := true, laidLooks := .later }
def ScriptBackUptoCardSaid : Prop := Claim7.holds Tryd.pinned (.plain (OpenSpec.upto scriptBackSpec)) scriptBackUptoCard

/-- THE SECOND FORM's CARD OF 'florinlaw23.ScriptGood'. -/
def scriptGoodUptoCard : Claim7 := { stood := { row := scriptGoodUptoRow, standIns := [], harness := (true, "736305fb52da55def6500c1c0973410683d72ee39e897db24364041400b1cfdc"), looks := false }, kinds := [], alts := [], laidByText := true, laidKinds := [.listed, .data], laidTests := true, laidLooks := .later }
def ScriptGoodUptoCardSaid : Prop := Claim7.holds Tryd.pinned (.plain (OpenSpec.upto scriptGoodSpec)) scriptGoodUptoCard

/-- THE SECOND FORM's CARD OF 'florinlaw23.ScriptRows'. -/
def scriptRowsUptoCard : Claim7 := { stood := { row := scriptRowsUptoRow, standIns := [], harness := (true, "736305fb52da55def6500c1c0973410683d72ee39e897db24364041400b1cfdc"), looks := false }, kinds := [], alts := [], laidByText := true, laidKinds := [.listed, .data], laidTests := true, laidLooks := .later }
def ScriptRowsUptoCardSaid : Prop := Claim7.holds Tryd.pinned (.plain (OpenSpec.upto scriptRowsSpec)) scriptRowsUptoCard
end Rows
end Go.Proofs.YtlcdehedojkgoaaDoor
