/- The table of types of this seat's program. -/
import Derived.Test.YtmoclebgbfojmaaProg
import Derived.Test.YtmoclebgbfojmaaV16
import Derived.KernelRfl
namespace Go.Proofs.Ytmoclebgbfojmaa
open Go.Vx
theorem mixed : Try.prog.follows .mixedOrders = true := by kernel_rfl
theorem ty2 : tyOf Try.prog 2 = some ⟨.int .i64, 1, 8, [.i .i64 0]⟩ := by kernel_rfl
theorem ty3 : tyOf Try.prog 3 = some ⟨.int .i64, 1, 8, [.i .i64 0]⟩ := by kernel_rfl
theorem ty4 : tyOf Try.prog 4 = some ⟨.bool, 1, 1, [.b false]⟩ := by kernel_rfl
theorem ty5 : tyOf Try.prog 5 = some ⟨.int .u8, 1, 1, [.i .u8 0]⟩ := by kernel_rfl
theorem ty6 : tyOf Try.prog 6 = some ⟨.int .u8, 1, 1, [.i .u8 0]⟩ := by kernel_rfl
theorem ty7 : tyOf Try.prog 7 = some ⟨.st [(2, 0), (3, 1), (4, 2), (6, 3)], 4, 24, [.i .i64 0, .i .i64 0, .b false, .i .u8 0]⟩ := by kernel_rfl
theorem ty8 : tyOf Try.prog 8 = some ⟨.st [(2, 0), (3, 1), (4, 2), (6, 3)], 4, 24, [.i .i64 0, .i .i64 0, .b false, .i .u8 0]⟩ := by kernel_rfl
theorem ty9 : tyOf Try.prog 9 = some ⟨.str, 1, 16, [.s []]⟩ := by kernel_rfl
theorem ty10 : tyOf Try.prog 10 = some ⟨.str, 1, 16, [.s []]⟩ := by kernel_rfl
theorem ty11 : tyOf Try.prog 11 = some ⟨.str, 1, 16, [.s []]⟩ := by kernel_rfl
theorem ty12 : tyOf Try.prog 12 = some ⟨.int .u64, 1, 8, [.i .u64 0]⟩ := by kernel_rfl
theorem ty13 : tyOf Try.prog 13 = some ⟨.st [(9, 0), (12, 1)], 2, 24, [.s [], .i .u64 0]⟩ := by kernel_rfl
theorem ty14 : tyOf Try.prog 14 = some ⟨.st [(9, 0), (12, 1)], 2, 24, [.s [], .i .u64 0]⟩ := by kernel_rfl
theorem ty15 : tyOf Try.prog 15 = some ⟨.ptr 68, 1, 8, [.nilp]⟩ := by kernel_rfl
theorem ty16 : tyOf Try.prog 16 = some ⟨.ptr 71, 1, 8, [.nilp]⟩ := by kernel_rfl
theorem ty17 : tyOf Try.prog 17 = some ⟨.ptr 80, 1, 8, [.nilp]⟩ := by kernel_rfl
theorem ty18 : tyOf Try.prog 18 = some ⟨.st [(17, 0)], 1, 8, [.nilp]⟩ := by kernel_rfl
theorem ty19 : tyOf Try.prog 19 = some ⟨.st [(17, 0)], 1, 8, [.nilp]⟩ := by kernel_rfl
theorem ty20 : tyOf Try.prog 20 = some ⟨.iface, 1, 16, [.nilif]⟩ := by kernel_rfl
theorem ty21 : tyOf Try.prog 21 = some ⟨.int .i32, 1, 4, [.i .i32 0]⟩ := by kernel_rfl
theorem ty22 : tyOf Try.prog 22 = some ⟨.sl 24, 1, 24, [.sl 0 [] .clip]⟩ := by kernel_rfl
theorem ty24 : tyOf Try.prog 24 = some ⟨.int .u32, 1, 4, [.i .u32 0]⟩ := by kernel_rfl
theorem ty29 : tyOf Try.prog 29 = some ⟨.int .i64, 1, 8, [.i .i64 0]⟩ := by kernel_rfl
theorem ty32 : tyOf Try.prog 32 = some ⟨.sl 41, 1, 24, [.sl 0 [] .clip]⟩ := by kernel_rfl
theorem ty38 : tyOf Try.prog 38 = some ⟨.arr 32 5, 32, 32, (List.replicate 32 (.i .u8 0))⟩ := by kernel_rfl
theorem ty39 : tyOf Try.prog 39 = some ⟨.arr 32 5, 32, 32, (List.replicate 32 (.i .u8 0))⟩ := by kernel_rfl
theorem ty40 : tyOf Try.prog 40 = some ⟨.st [(24, 0), (39, 1), (39, 33), (24, 65), (24, 66), (24, 67)], 68, 80, [.i .u32 0, .i .u8 0, .i .u8 0, .i .u8 0, .i .u8 0, .i .u8 0, .i .u8 0, .i .u8 0, .i .u8 0, .i .u8 0, .i .u8 0, .i .u8 0, .i .u8 0, .i .u8 0, .i .u8 0, .i .u8 0, .i .u8 0, .i .u8 0, .i .u8 0, .i .u8 0, .i .u8 0, .i .u8 0, .i .u8 0, .i .u8 0, .i .u8 0, .i .u8 0, .i .u8 0, .i .u8 0, .i .u8 0, .i .u8 0, .i .u8 0, .i .u8 0, .i .u8 0, .i .u8 0, .i .u8 0, .i .u8 0, .i .u8 0, .i .u8 0, .i .u8 0, .i .u8 0, .i .u8 0, .i .u8 0, .i .u8 0, .i .u8 0, .i .u8 0, .i .u8 0, .i .u8 0, .i .u8 0, .i .u8 0, .i .u8 0, .i .u8 0, .i .u8 0, .i .u8 0, .i .u8 0, .i .u8 0, .i .u8 0, .i .u8 0, .i .u8 0, .i .u8 0, .i .u8 0, .i .u8 0, .i .u8 0, .i .u8 0, .i .u8 0, .i .u8 0, .i .u32 0, .i .u32 0, .i .u32 0]⟩ := by kernel_rfl
theorem ty41 : tyOf Try.prog 41 = some ⟨.st [(24, 0), (39, 1), (39, 33), (24, 65), (24, 66), (24, 67)], 68, 80, [.i .u32 0, .i .u8 0, .i .u8 0, .i .u8 0, .i .u8 0, .i .u8 0, .i .u8 0, .i .u8 0, .i .u8 0, .i .u8 0, .i .u8 0, .i .u8 0, .i .u8 0, .i .u8 0, .i .u8 0, .i .u8 0, .i .u8 0, .i .u8 0, .i .u8 0, .i .u8 0, .i .u8 0, .i .u8 0, .i .u8 0, .i .u8 0, .i .u8 0, .i .u8 0, .i .u8 0, .i .u8 0, .i .u8 0, .i .u8 0, .i .u8 0, .i .u8 0, .i .u8 0, .i .u8 0, .i .u8 0, .i .u8 0, .i .u8 0, .i .u8 0, .i .u8 0, .i .u8 0, .i .u8 0, .i .u8 0, .i .u8 0, .i .u8 0, .i .u8 0, .i .u8 0, .i .u8 0, .i .u8 0, .i .u8 0, .i .u8 0, .i .u8 0, .i .u8 0, .i .u8 0, .i .u8 0, .i .u8 0, .i .u8 0, .i .u8 0, .i .u8 0, .i .u8 0, .i .u8 0, .i .u8 0, .i .u8 0, .i .u8 0, .i .u8 0, .i .u8 0, .i .u32 0, .i .u32 0, .i .u32 0]⟩ := by kernel_rfl
theorem ty44 : tyOf Try.prog 44 = some ⟨.int .u64, 1, 8, [.i .u64 0]⟩ := by kernel_rfl
theorem ty47 : tyOf Try.prog 47 = some ⟨.int .i64, 1, 8, [.i .i64 0]⟩ := by kernel_rfl
theorem ty56 : tyOf Try.prog 56 = some ⟨.int .u64, 1, 8, [.i .u64 0]⟩ := by kernel_rfl
theorem ty57 : tyOf Try.prog 57 = some ⟨.int .u64, 1, 8, [.i .u64 0]⟩ := by kernel_rfl
theorem ty61 : tyOf Try.prog 61 = some ⟨.ptr 3, 1, 8, [.nilp]⟩ := by kernel_rfl
theorem ty63 : tyOf Try.prog 63 = some ⟨.ptr 57, 1, 8, [.nilp]⟩ := by kernel_rfl
theorem ty67 : tyOf Try.prog 67 = some ⟨.st [(17, 0), (17, 1), (17, 2), (9, 3)], 4, 40, [.nilp, .nilp, .nilp, .s []]⟩ := by kernel_rfl
theorem ty68 : tyOf Try.prog 68 = some ⟨.st [(17, 0), (17, 1), (17, 2), (9, 3)], 4, 40, [.nilp, .nilp, .nilp, .s []]⟩ := by kernel_rfl
theorem ty69 : tyOf Try.prog 69 = some ⟨.arr 0 16, 0, 0, []⟩ := by kernel_rfl
theorem ty70 : tyOf Try.prog 70 = some ⟨.st [(69, 0)], 0, 0, []⟩ := by kernel_rfl
theorem ty71 : tyOf Try.prog 71 = some ⟨.st [(69, 0)], 0, 0, []⟩ := by kernel_rfl
theorem ty73 : tyOf Try.prog 73 = some ⟨.int .u8, 1, 1, [.i .u8 0]⟩ := by kernel_rfl
theorem ty74 : tyOf Try.prog 74 = some ⟨.int .u8, 1, 1, [.i .u8 0]⟩ := by kernel_rfl
theorem ty76 : tyOf Try.prog 76 = some ⟨.ptr 5, 1, 8, [.nilp]⟩ := by kernel_rfl
theorem ty77 : tyOf Try.prog 77 = some ⟨.int .i32, 1, 4, [.i .i32 0]⟩ := by kernel_rfl
theorem ty78 : tyOf Try.prog 78 = some ⟨.int .i32, 1, 4, [.i .i32 0]⟩ := by kernel_rfl
theorem ty81 : tyOf Try.prog 81 = some ⟨.other, 1, 8, [.nilp]⟩ := by kernel_rfl
end Go.Proofs.Ytmoclebgbfojmaa
