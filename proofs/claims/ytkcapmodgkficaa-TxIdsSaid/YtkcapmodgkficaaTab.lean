/- The table of types of this seat's program. -/
import Derived.Test.YtkcapmodgkficaaProg
import Derived.Test.YtkcapmodgkficaaV16
import Derived.KernelRfl
namespace Go.Proofs.Ytkcapmodgkficaa
open Go.Vx
theorem mixed : Try.prog.follows .mixedOrders = true := by kernel_rfl
theorem ty2 : tyOf Try.prog 2 = some ⟨.int .i64, 1, 8, [.i .i64 0]⟩ := by kernel_rfl
theorem ty3 : tyOf Try.prog 3 = some ⟨.int .i64, 1, 8, [.i .i64 0]⟩ := by kernel_rfl
theorem ty4 : tyOf Try.prog 4 = some ⟨.bool, 1, 1, [.b false]⟩ := by kernel_rfl
theorem ty5 : tyOf Try.prog 5 = some ⟨.int .u8, 1, 1, [.i .u8 0]⟩ := by kernel_rfl
theorem ty6 : tyOf Try.prog 6 = some ⟨.int .u8, 1, 1, [.i .u8 0]⟩ := by kernel_rfl
theorem ty7 : tyOf Try.prog 7 = some ⟨.st [(2, 0), (3, 1), (4, 2), (6, 3)], 4, 24, [.i .i64 0, .i .i64 0, .b false, .i .u8 0]⟩ := by kernel_rfl
theorem ty8 : tyOf Try.prog 8 = some ⟨.st [(2, 0), (3, 1), (4, 2), (6, 3)], 4, 24, [.i .i64 0, .i .i64 0, .b false, .i .u8 0]⟩ := by kernel_rfl
theorem ty9 : tyOf Try.prog 9 = some ⟨.str, 1, 16, [.s []]⟩ := by kernel_rfl
theorem ty10 : tyOf Try.prog 10 = some ⟨.str, 1, 16, [.s []]⟩ := by kernel_rfl
theorem ty11 : tyOf Try.prog 11 = some ⟨.str, 1, 16, [.s []]⟩ := by kernel_rfl
theorem ty12 : tyOf Try.prog 12 = some ⟨.int .u64, 1, 8, [.i .u64 0]⟩ := by kernel_rfl
theorem ty13 : tyOf Try.prog 13 = some ⟨.st [(9, 0), (12, 1)], 2, 24, [.s [], .i .u64 0]⟩ := by kernel_rfl
theorem ty14 : tyOf Try.prog 14 = some ⟨.st [(9, 0), (12, 1)], 2, 24, [.s [], .i .u64 0]⟩ := by kernel_rfl
theorem ty15 : tyOf Try.prog 15 = some ⟨.ptr 121, 1, 8, [.nilp]⟩ := by kernel_rfl
theorem ty16 : tyOf Try.prog 16 = some ⟨.ptr 124, 1, 8, [.nilp]⟩ := by kernel_rfl
theorem ty17 : tyOf Try.prog 17 = some ⟨.ptr 133, 1, 8, [.nilp]⟩ := by kernel_rfl
theorem ty18 : tyOf Try.prog 18 = some ⟨.st [(17, 0)], 1, 8, [.nilp]⟩ := by kernel_rfl
theorem ty19 : tyOf Try.prog 19 = some ⟨.st [(17, 0)], 1, 8, [.nilp]⟩ := by kernel_rfl
theorem ty20 : tyOf Try.prog 20 = some ⟨.iface, 1, 16, [.nilif]⟩ := by kernel_rfl
theorem ty21 : tyOf Try.prog 21 = some ⟨.int .i32, 1, 4, [.i .i32 0]⟩ := by kernel_rfl
theorem ty22 : tyOf Try.prog 22 = some ⟨.int .u32, 1, 4, [.i .u32 0]⟩ := by kernel_rfl
theorem ty23 : tyOf Try.prog 23 = some ⟨.sl 54, 1, 24, [.sl 0 [] .clip]⟩ := by kernel_rfl
theorem ty24 : tyOf Try.prog 24 = some ⟨.sl 50, 1, 24, [.sl 0 [] .clip]⟩ := by kernel_rfl
theorem ty25 : tyOf Try.prog 25 = some ⟨.st [(22, 0), (23, 1), (24, 2), (22, 3)], 4, 64, [.i .u32 0, .sl 0 [] .clip, .sl 0 [] .clip, .i .u32 0]⟩ := by kernel_rfl
theorem ty26 : tyOf Try.prog 26 = some ⟨.st [(22, 0), (23, 1), (24, 2), (22, 3)], 4, 64, [.i .u32 0, .sl 0 [] .clip, .sl 0 [] .clip, .i .u32 0]⟩ := by kernel_rfl
theorem ty27 : tyOf Try.prog 27 = some ⟨.sl 5, 1, 24, [.sl 0 [] .clip]⟩ := by kernel_rfl
theorem ty30 : tyOf Try.prog 30 = some ⟨.int .i64, 1, 8, [.i .i64 0]⟩ := by kernel_rfl
theorem ty33 : tyOf Try.prog 33 = some ⟨.sl 59, 1, 24, [.sl 0 [] .clip]⟩ := by kernel_rfl
theorem ty34 : tyOf Try.prog 34 = some ⟨.sl 60, 1, 24, [.sl 0 [] .clip]⟩ := by kernel_rfl
theorem ty35 : tyOf Try.prog 35 = some ⟨.st [(22, 0), (33, 1), (34, 2), (22, 3)], 4, 64, [.i .u32 0, .sl 0 [] .clip, .sl 0 [] .clip, .i .u32 0]⟩ := by kernel_rfl
theorem ty36 : tyOf Try.prog 36 = some ⟨.st [(22, 0), (33, 1), (34, 2), (22, 3)], 4, 64, [.i .u32 0, .sl 0 [] .clip, .sl 0 [] .clip, .i .u32 0]⟩ := by kernel_rfl
theorem ty45 : tyOf Try.prog 45 = some ⟨.sl 27, 1, 24, [.sl 0 [] .clip]⟩ := by kernel_rfl
theorem ty46 : tyOf Try.prog 46 = some ⟨.sl 52, 1, 24, [.sl 0 [] .clip]⟩ := by kernel_rfl
theorem ty48 : tyOf Try.prog 48 = some ⟨.int .u64, 1, 8, [.i .u64 0]⟩ := by kernel_rfl
theorem ty49 : tyOf Try.prog 49 = some ⟨.st [(48, 0), (27, 1)], 2, 32, [.i .u64 0, .sl 0 [] .clip]⟩ := by kernel_rfl
theorem ty50 : tyOf Try.prog 50 = some ⟨.st [(48, 0), (27, 1)], 2, 32, [.i .u64 0, .sl 0 [] .clip]⟩ := by kernel_rfl
theorem ty51 : tyOf Try.prog 51 = some ⟨.arr 32 5, 32, 32, (List.replicate 32 (.i .u8 0))⟩ := by kernel_rfl
theorem ty52 : tyOf Try.prog 52 = some ⟨.arr 32 5, 32, 32, (List.replicate 32 (.i .u8 0))⟩ := by kernel_rfl
theorem ty53 : tyOf Try.prog 53 = some ⟨.st [(52, 0), (22, 32), (27, 33), (22, 34)], 35, 72, [.i .u8 0, .i .u8 0, .i .u8 0, .i .u8 0, .i .u8 0, .i .u8 0, .i .u8 0, .i .u8 0, .i .u8 0, .i .u8 0, .i .u8 0, .i .u8 0, .i .u8 0, .i .u8 0, .i .u8 0, .i .u8 0, .i .u8 0, .i .u8 0, .i .u8 0, .i .u8 0, .i .u8 0, .i .u8 0, .i .u8 0, .i .u8 0, .i .u8 0, .i .u8 0, .i .u8 0, .i .u8 0, .i .u8 0, .i .u8 0, .i .u8 0, .i .u8 0, .i .u32 0, .sl 0 [] .clip, .i .u32 0]⟩ := by kernel_rfl
theorem ty54 : tyOf Try.prog 54 = some ⟨.st [(52, 0), (22, 32), (27, 33), (22, 34)], 35, 72, [.i .u8 0, .i .u8 0, .i .u8 0, .i .u8 0, .i .u8 0, .i .u8 0, .i .u8 0, .i .u8 0, .i .u8 0, .i .u8 0, .i .u8 0, .i .u8 0, .i .u8 0, .i .u8 0, .i .u8 0, .i .u8 0, .i .u8 0, .i .u8 0, .i .u8 0, .i .u8 0, .i .u8 0, .i .u8 0, .i .u8 0, .i .u8 0, .i .u8 0, .i .u8 0, .i .u8 0, .i .u8 0, .i .u8 0, .i .u8 0, .i .u8 0, .i .u8 0, .i .u32 0, .sl 0 [] .clip, .i .u32 0]⟩ := by kernel_rfl
theorem ty59 : tyOf Try.prog 59 = some ⟨.st [(52, 0), (22, 32), (27, 33), (22, 34)], 35, 72, [.i .u8 0, .i .u8 0, .i .u8 0, .i .u8 0, .i .u8 0, .i .u8 0, .i .u8 0, .i .u8 0, .i .u8 0, .i .u8 0, .i .u8 0, .i .u8 0, .i .u8 0, .i .u8 0, .i .u8 0, .i .u8 0, .i .u8 0, .i .u8 0, .i .u8 0, .i .u8 0, .i .u8 0, .i .u8 0, .i .u8 0, .i .u8 0, .i .u8 0, .i .u8 0, .i .u8 0, .i .u8 0, .i .u8 0, .i .u8 0, .i .u8 0, .i .u8 0, .i .u32 0, .sl 0 [] .clip, .i .u32 0]⟩ := by kernel_rfl
theorem ty60 : tyOf Try.prog 60 = some ⟨.st [(48, 0), (27, 1)], 2, 32, [.i .u64 0, .sl 0 [] .clip]⟩ := by kernel_rfl
theorem ty61 : tyOf Try.prog 61 = some ⟨.ptr 63, 1, 8, [.nilp]⟩ := by kernel_rfl
theorem ty62 : tyOf Try.prog 62 = some ⟨.st [(27, 0)], 1, 24, [.sl 0 [] .clip]⟩ := by kernel_rfl
theorem ty63 : tyOf Try.prog 63 = some ⟨.st [(27, 0)], 1, 24, [.sl 0 [] .clip]⟩ := by kernel_rfl
theorem ty71 : tyOf Try.prog 71 = some ⟨.ptr 73, 1, 8, [.nilp]⟩ := by kernel_rfl
theorem ty72 : tyOf Try.prog 72 = some ⟨.st [(27, 0), (30, 1)], 2, 32, [.sl 0 [] .clip, .i .i64 0]⟩ := by kernel_rfl
theorem ty73 : tyOf Try.prog 73 = some ⟨.st [(27, 0), (30, 1)], 2, 32, [.sl 0 [] .clip, .i .i64 0]⟩ := by kernel_rfl
theorem ty81 : tyOf Try.prog 81 = some ⟨.int .u64, 1, 8, [.i .u64 0]⟩ := by kernel_rfl
theorem ty98 : tyOf Try.prog 98 = some ⟨.arr 8 22, 8, 32, [.i .u32 0, .i .u32 0, .i .u32 0, .i .u32 0, .i .u32 0, .i .u32 0, .i .u32 0, .i .u32 0]⟩ := by kernel_rfl
theorem ty99 : tyOf Try.prog 99 = some ⟨.st [(98, 0), (27, 8), (48, 9)], 10, 64, [.i .u32 0, .i .u32 0, .i .u32 0, .i .u32 0, .i .u32 0, .i .u32 0, .i .u32 0, .i .u32 0, .sl 0 [] .clip, .i .u64 0]⟩ := by kernel_rfl
theorem ty100 : tyOf Try.prog 100 = some ⟨.st [(98, 0), (27, 8), (48, 9)], 10, 64, [.i .u32 0, .i .u32 0, .i .u32 0, .i .u32 0, .i .u32 0, .i .u32 0, .i .u32 0, .i .u32 0, .sl 0 [] .clip, .i .u64 0]⟩ := by kernel_rfl
theorem ty111 : tyOf Try.prog 111 = some ⟨.arr 64 22, 64, 256, (List.replicate 64 (.i .u32 0))⟩ := by kernel_rfl
theorem ty112 : tyOf Try.prog 112 = some ⟨.arr 64 22, 64, 256, (List.replicate 64 (.i .u32 0))⟩ := by kernel_rfl
theorem ty116 : tyOf Try.prog 116 = some ⟨.sl 22, 1, 24, [.sl 0 [] .clip]⟩ := by kernel_rfl
theorem ty117 : tyOf Try.prog 117 = some ⟨.sl 3, 1, 24, [.sl 0 [] .clip]⟩ := by kernel_rfl
theorem ty120 : tyOf Try.prog 120 = some ⟨.st [(17, 0), (17, 1), (17, 2), (9, 3)], 4, 40, [.nilp, .nilp, .nilp, .s []]⟩ := by kernel_rfl
theorem ty121 : tyOf Try.prog 121 = some ⟨.st [(17, 0), (17, 1), (17, 2), (9, 3)], 4, 40, [.nilp, .nilp, .nilp, .s []]⟩ := by kernel_rfl
theorem ty122 : tyOf Try.prog 122 = some ⟨.arr 0 16, 0, 0, []⟩ := by kernel_rfl
theorem ty123 : tyOf Try.prog 123 = some ⟨.st [(122, 0)], 0, 0, []⟩ := by kernel_rfl
theorem ty124 : tyOf Try.prog 124 = some ⟨.st [(122, 0)], 0, 0, []⟩ := by kernel_rfl
theorem ty126 : tyOf Try.prog 126 = some ⟨.int .u8, 1, 1, [.i .u8 0]⟩ := by kernel_rfl
theorem ty127 : tyOf Try.prog 127 = some ⟨.int .u8, 1, 1, [.i .u8 0]⟩ := by kernel_rfl
theorem ty129 : tyOf Try.prog 129 = some ⟨.ptr 5, 1, 8, [.nilp]⟩ := by kernel_rfl
theorem ty130 : tyOf Try.prog 130 = some ⟨.int .i32, 1, 4, [.i .i32 0]⟩ := by kernel_rfl
theorem ty131 : tyOf Try.prog 131 = some ⟨.int .i32, 1, 4, [.i .i32 0]⟩ := by kernel_rfl
theorem ty134 : tyOf Try.prog 134 = some ⟨.other, 1, 8, [.nilp]⟩ := by kernel_rfl
end Go.Proofs.Ytkcapmodgkficaa
