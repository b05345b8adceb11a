/- Disks out of their kinds. -/
import Derived.Test.YtjggpdcmjphmmaaV19
import Derived.Test.YtjggpdcmjphmmaaDV2
namespace Go.Proofs.Ytjggpdcmjphmmaa
open Go.Vx Go.Fl Go.RowKit

theorem wr_of {u : V} (H : HasT true [.int .i64, .sl false [.int .u8]] u) : ∃ x : Wr, u = wv x := by
  obtain ⟨vs, hl, h, ha, -⟩ := H
  have := ha rfl
  subst this
  match vs, hl with
  | [a, b], _ =>
    obtain ⟨n, rfl, -⟩ := (h 0 _ _ rfl rfl).i64
    obtain ⟨l, rfl, -⟩ := (h 1 _ _ rfl rfl).bytes
    exact ⟨(n, l), rfl⟩
theorem dk_of {u : V} (H : HasT true [.sl false [.int .u8], .sl true [.int .i64, .sl false [.int .u8]]] u) : ∃ D : Dk, u = dv D := by
  obtain ⟨vs, hl, h, ha, -⟩ := H
  have := ha rfl
  subst this
  match vs, hl with
  | [a, b], _ =>
    obtain ⟨l, rfl, -⟩ := (h 0 _ _ rfl rfl).bytes
    obtain ⟨es, rfl, -, he⟩ := (h 1 _ _ rfl rfl).sl'
    obtain ⟨ws, rfl⟩ := list_of (enc := wv) fun e h => wr_of (he e h)
    exact ⟨(l, ws), rfl⟩
end Go.Proofs.Ytjggpdcmjphmmaa
