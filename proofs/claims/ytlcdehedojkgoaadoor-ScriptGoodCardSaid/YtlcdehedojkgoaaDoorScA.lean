/- Scripts: names. -/
import Derived.Test.YtlcdehedojkgoaaDoorTab
import Derived.Test.YtlcdehedojkgoaaDoorV22
namespace Go.Proofs.YtlcdehedojkgoaaDoor
open Go.Vx Go.Fl
set_option maxRecDepth 100000
set_option maxHeartbeats 4000000
set_option linter.unusedSimpArgs false
set_option linter.unusedVariables false

def nm (s : String) : List UInt8 := s.toUTF8.data.toList
def kinds : List (List UInt8) := [nm "connect", nm "bytes", nm "tick", nm "watch", nm "ask", nm "tip", nm "tx", nm "sync", nm "crash", nm "compact"]
theorem fields_ok : VPure Tryd.prog 25 [.s (nm "connect bytes tick watch ask tip tx sync crash compact")] (.sl 1 (kinds.map V.s) .no) := by
  refine pure_by_run (tyOf_ok _) mixed Tryd.func25 rfl rfl (fun d => if d = 41 then 2 else 0) (by kernel_rfl) 100 ?_
  kernel_rfl
end Go.Proofs.YtlcdehedojkgoaaDoor
