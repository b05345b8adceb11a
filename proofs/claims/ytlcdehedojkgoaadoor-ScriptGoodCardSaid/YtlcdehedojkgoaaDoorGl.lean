/- What package variables hold: which bytes are blanks (strings.asciiSpace). -/
import Derived.Test.YtlcdehedojkgoaaDoorV1
namespace Go.Vx

def spaceTab : List V := (List.range 256).map fun i => .i .u8 (if i = 32 ∨ (9 ≤ i ∧ i ≤ 13) then 1 else 0)
/-- The cells of a package variable that stays as it is. -/
def gl : Nat → Option (List V) := fun g => if g = 0 then some spaceTab else none
end Go.Vx
