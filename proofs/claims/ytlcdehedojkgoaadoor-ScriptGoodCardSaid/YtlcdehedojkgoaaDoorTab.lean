/- The table of types of this seat's program. -/
import Derived.Test.YtlcdehedojkgoaaDoorProg
import Derived.Test.YtlcdehedojkgoaaDoorV16
import Derived.KernelRfl
namespace Go.Proofs.YtlcdehedojkgoaaDoor
open Go.Vx
theorem mixed : Tryd.prog.follows .mixedOrders = true := by kernel_rfl
theorem ty2 : tyOf Tryd.prog 2 = some ⟨.int .i64, 1, 8, [.i .i64 0]⟩ := by kernel_rfl
theorem ty3 : tyOf Tryd.prog 3 = some ⟨.int .i64, 1, 8, [.i .i64 0]⟩ := by kernel_rfl
theorem ty4 : tyOf Tryd.prog 4 = some ⟨.bool, 1, 1, [.b false]⟩ := by kernel_rfl
theorem ty5 : tyOf Tryd.prog 5 = some ⟨.int .u8, 1, 1, [.i .u8 0]⟩ := by kernel_rfl
theorem ty6 : tyOf Tryd.prog 6 = some ⟨.int .u8, 1, 1, [.i .u8 0]⟩ := by kernel_rfl
theorem ty7 : tyOf Tryd.prog 7 = some ⟨.st [(2, 0), (3, 1), (4, 2), (6, 3)], 4, 24, [.i .i64 0, .i .i64 0, .b false, .i .u8 0]⟩ := by kernel_rfl
theorem ty8 : tyOf Tryd.prog 8 = some ⟨.st [(2, 0), (3, 1), (4, 2), (6, 3)], 4, 24, [.i .i64 0, .i .i64 0, .b false, .i .u8 0]⟩ := by kernel_rfl
theorem ty9 : tyOf Tryd.prog 9 = some ⟨.str, 1, 16, [.s []]⟩ := by kernel_rfl
theorem ty10 : tyOf Tryd.prog 10 = some ⟨.str, 1, 16, [.s []]⟩ := by kernel_rfl
theorem ty11 : tyOf Tryd.prog 11 = some ⟨.str, 1, 16, [.s []]⟩ := by kernel_rfl
theorem ty12 : tyOf Tryd.prog 12 = some ⟨.int .u64, 1, 8, [.i .u64 0]⟩ := by kernel_rfl
theorem ty13 : tyOf Tryd.prog 13 = some ⟨.st [(9, 0), (12, 1)], 2, 24, [.s [], .i .u64 0]⟩ := by kernel_rfl
theorem ty14 : tyOf Tryd.prog 14 = some ⟨.st [(9, 0), (12, 1)], 2, 24, [.s [], .i .u64 0]⟩ := by kernel_rfl
theorem ty15 : tyOf Tryd.prog 15 = some ⟨.ptr 76, 1, 8, [.nilp]⟩ := by kernel_rfl
theorem ty16 : tyOf Tryd.prog 16 = some ⟨.ptr 79, 1, 8, [.nilp]⟩ := by kernel_rfl
theorem ty17 : tyOf Tryd.prog 17 = some ⟨.ptr 87, 1, 8, [.nilp]⟩ := by kernel_rfl
theorem ty18 : tyOf Tryd.prog 18 = some ⟨.st [(17, 0)], 1, 8, [.nilp]⟩ := by kernel_rfl
theorem ty19 : tyOf Tryd.prog 19 = some ⟨.st [(17, 0)], 1, 8, [.nilp]⟩ := by kernel_rfl
theorem ty20 : tyOf Tryd.prog 20 = some ⟨.iface, 1, 16, [.nilif]⟩ := by kernel_rfl
theorem ty21 : tyOf Tryd.prog 21 = some ⟨.int .i32, 1, 4, [.i .i32 0]⟩ := by kernel_rfl
theorem ty22 : tyOf Tryd.prog 22 = some ⟨.sl 26, 1, 24, [.sl 0 [] .clip]⟩ := by kernel_rfl
theorem ty23 : tyOf Tryd.prog 23 = some ⟨.sl 5, 1, 24, [.sl 0 [] .clip]⟩ := by kernel_rfl
theorem ty25 : tyOf Tryd.prog 25 = some ⟨.st [(3, 0), (3, 1), (3, 2), (23, 3)], 4, 48, [.i .i64 0, .i .i64 0, .i .i64 0, .sl 0 [] .clip]⟩ := by kernel_rfl
theorem ty26 : tyOf Tryd.prog 26 = some ⟨.st [(3, 0), (3, 1), (3, 2), (23, 3)], 4, 48, [.i .i64 0, .i .i64 0, .i .i64 0, .sl 0 [] .clip]⟩ := by kernel_rfl
theorem ty28 : tyOf Tryd.prog 28 = some ⟨.st [(3, 0), (3, 1), (3, 2), (23, 3)], 4, 48, [.i .i64 0, .i .i64 0, .i .i64 0, .sl 0 [] .clip]⟩ := by kernel_rfl
theorem ty29 : tyOf Tryd.prog 29 = some ⟨.sl 28, 1, 24, [.sl 0 [] .clip]⟩ := by kernel_rfl
theorem ty43 : tyOf Tryd.prog 43 = some ⟨.ptr 45, 1, 8, [.nilp]⟩ := by kernel_rfl
theorem ty44 : tyOf Tryd.prog 44 = some ⟨.st [(23, 0)], 1, 24, [.sl 0 [] .clip]⟩ := by kernel_rfl
theorem ty45 : tyOf Tryd.prog 45 = some ⟨.st [(23, 0)], 1, 24, [.sl 0 [] .clip]⟩ := by kernel_rfl
theorem ty49 : tyOf Tryd.prog 49 = some ⟨.sl 9, 1, 24, [.sl 0 [] .clip]⟩ := by kernel_rfl
theorem ty51 : tyOf Tryd.prog 51 = some ⟨.int .u64, 1, 8, [.i .u64 0]⟩ := by kernel_rfl
theorem ty52 : tyOf Tryd.prog 52 = some ⟨.arr 256 5, 256, 256, (List.replicate 256 (.i .u8 0))⟩ := by kernel_rfl
theorem ty55 : tyOf Tryd.prog 55 = some ⟨.sl 57, 1, 24, [.sl 0 [] .clip]⟩ := by kernel_rfl
theorem ty56 : tyOf Tryd.prog 56 = some ⟨.st [(3, 0), (3, 1)], 2, 16, [.i .i64 0, .i .i64 0]⟩ := by kernel_rfl
theorem ty57 : tyOf Tryd.prog 57 = some ⟨.st [(3, 0), (3, 1)], 2, 16, [.i .i64 0, .i .i64 0]⟩ := by kernel_rfl
theorem ty58 : tyOf Tryd.prog 58 = some ⟨.int .u32, 1, 4, [.i .u32 0]⟩ := by kernel_rfl
theorem ty60 : tyOf Tryd.prog 60 = some ⟨.ptr 64, 1, 8, [.nilp]⟩ := by kernel_rfl
theorem ty61 : tyOf Tryd.prog 61 = some ⟨.sl 67, 1, 24, [.sl 0 [] .clip]⟩ := by kernel_rfl
theorem ty62 : tyOf Tryd.prog 62 = some ⟨.sl 70, 1, 24, [.sl 0 [] .clip]⟩ := by kernel_rfl
theorem ty63 : tyOf Tryd.prog 63 = some ⟨.st [(61, 0), (62, 1), (3, 2)], 3, 56, [.sl 0 [] .clip, .sl 0 [] .clip, .i .i64 0]⟩ := by kernel_rfl
theorem ty64 : tyOf Tryd.prog 64 = some ⟨.st [(61, 0), (62, 1), (3, 2)], 3, 56, [.sl 0 [] .clip, .sl 0 [] .clip, .i .i64 0]⟩ := by kernel_rfl
theorem ty65 : tyOf Tryd.prog 65 = some ⟨.int .u16, 1, 2, [.i .u16 0]⟩ := by kernel_rfl
theorem ty66 : tyOf Tryd.prog 66 = some ⟨.st [(65, 0), (65, 1), (65, 2)], 3, 6, [.i .u16 0, .i .u16 0, .i .u16 0]⟩ := by kernel_rfl
theorem ty67 : tyOf Tryd.prog 67 = some ⟨.st [(65, 0), (65, 1), (65, 2)], 3, 6, [.i .u16 0, .i .u16 0, .i .u16 0]⟩ := by kernel_rfl
theorem ty69 : tyOf Tryd.prog 69 = some ⟨.st [(58, 0), (58, 1), (58, 2)], 3, 12, [.i .u32 0, .i .u32 0, .i .u32 0]⟩ := by kernel_rfl
theorem ty70 : tyOf Tryd.prog 70 = some ⟨.st [(58, 0), (58, 1), (58, 2)], 3, 12, [.i .u32 0, .i .u32 0, .i .u32 0]⟩ := by kernel_rfl
theorem ty72 : tyOf Tryd.prog 72 = some ⟨.ptr 67, 1, 8, [.nilp]⟩ := by kernel_rfl
theorem ty73 : tyOf Tryd.prog 73 = some ⟨.ptr 70, 1, 8, [.nilp]⟩ := by kernel_rfl
theorem ty75 : tyOf Tryd.prog 75 = some ⟨.st [(17, 0), (17, 1), (17, 2), (9, 3)], 4, 40, [.nilp, .nilp, .nilp, .s []]⟩ := by kernel_rfl
theorem ty76 : tyOf Tryd.prog 76 = some ⟨.st [(17, 0), (17, 1), (17, 2), (9, 3)], 4, 40, [.nilp, .nilp, .nilp, .s []]⟩ := by kernel_rfl
theorem ty77 : tyOf Tryd.prog 77 = some ⟨.arr 0 16, 0, 0, []⟩ := by kernel_rfl
theorem ty78 : tyOf Tryd.prog 78 = some ⟨.st [(77, 0)], 0, 0, []⟩ := by kernel_rfl
theorem ty79 : tyOf Tryd.prog 79 = some ⟨.st [(77, 0)], 0, 0, []⟩ := by kernel_rfl
theorem ty80 : tyOf Tryd.prog 80 = some ⟨.int .u8, 1, 1, [.i .u8 0]⟩ := by kernel_rfl
theorem ty81 : tyOf Tryd.prog 81 = some ⟨.int .u8, 1, 1, [.i .u8 0]⟩ := by kernel_rfl
theorem ty83 : tyOf Tryd.prog 83 = some ⟨.ptr 5, 1, 8, [.nilp]⟩ := by kernel_rfl
theorem ty84 : tyOf Tryd.prog 84 = some ⟨.int .i32, 1, 4, [.i .i32 0]⟩ := by kernel_rfl
theorem ty85 : tyOf Tryd.prog 85 = some ⟨.int .i32, 1, 4, [.i .i32 0]⟩ := by kernel_rfl
theorem ty88 : tyOf Tryd.prog 88 = some ⟨.other, 1, 8, [.nilp]⟩ := by kernel_rfl
end Go.Proofs.YtlcdehedojkgoaaDoor
