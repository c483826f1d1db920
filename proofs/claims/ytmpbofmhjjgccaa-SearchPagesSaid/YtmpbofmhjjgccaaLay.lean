/-
  The layouts of types; functions that may be called.
-/
import Derived.Test.YtmpbofmhjjgccaaAwN
namespace Go.Proofs.Ytmpbofmhjjgccaa
set_option maxRecDepth 100000

theorem ly2 : layOf Try.prog 2 = some ⟨false, 1, 8, [.int .i64 0], [], (.int .i64)⟩ := by kernel_rfl
theorem ly3 : layOf Try.prog 3 = some ⟨false, 1, 8, [.int .i64 0], [], (.int .i64)⟩ := by kernel_rfl
theorem ly4 : layOf Try.prog 4 = some ⟨false, 1, 1, [.bool false], [], .bool⟩ := by kernel_rfl
theorem ly5 : layOf Try.prog 5 = some ⟨false, 1, 1, [.int .u8 0], [], (.int .u8)⟩ := by kernel_rfl
theorem ly6 : layOf Try.prog 6 = some ⟨false, 1, 1, [.int .u8 0], [], (.int .u8)⟩ := by kernel_rfl
theorem ly7 : layOf Try.prog 7 = some ⟨true, 4, 24, [.int .i64 0, .int .i64 0, .bool false, .int .u8 0], [(0, 1, false), (1, 1, false), (2, 1, false), (3, 1, false)], .strukt⟩ := by kernel_rfl
theorem ly8 : layOf Try.prog 8 = some ⟨true, 4, 24, [.int .i64 0, .int .i64 0, .bool false, .int .u8 0], [(0, 1, false), (1, 1, false), (2, 1, false), (3, 1, false)], .strukt⟩ := by kernel_rfl
theorem ly9 : layOf Try.prog 9 = some ⟨false, 1, 16, [.string ByteArray.empty], [], .str⟩ := by kernel_rfl
theorem ly10 : layOf Try.prog 10 = some ⟨false, 1, 16, [.string ByteArray.empty], [], .str⟩ := by kernel_rfl
theorem ly11 : layOf Try.prog 11 = some ⟨false, 1, 16, [.string ByteArray.empty], [], .str⟩ := by kernel_rfl
theorem ly12 : layOf Try.prog 12 = some ⟨false, 1, 8, [.int .u64 0], [], (.int .u64)⟩ := by kernel_rfl
theorem ly13 : layOf Try.prog 13 = some ⟨true, 2, 24, [.string ByteArray.empty, .int .u64 0], [(0, 1, false), (1, 1, false)], .strukt⟩ := by kernel_rfl
theorem ly14 : layOf Try.prog 14 = some ⟨true, 2, 24, [.string ByteArray.empty, .int .u64 0], [(0, 1, false), (1, 1, false)], .strukt⟩ := by kernel_rfl
theorem ly15 : layOf Try.prog 15 = some ⟨false, 1, 8, [.pointer none], [], (.pointer 70)⟩ := by kernel_rfl
theorem ly16 : layOf Try.prog 16 = some ⟨false, 1, 8, [.pointer none], [], (.pointer 73)⟩ := by kernel_rfl
theorem ly17 : layOf Try.prog 17 = some ⟨false, 1, 8, [.pointer none], [], (.pointer 82)⟩ := by kernel_rfl
theorem ly18 : layOf Try.prog 18 = some ⟨true, 1, 8, [.pointer none], [(0, 1, false)], .strukt⟩ := by kernel_rfl
theorem ly19 : layOf Try.prog 19 = some ⟨true, 1, 8, [.pointer none], [(0, 1, false)], .strukt⟩ := by kernel_rfl
theorem ly20 : layOf Try.prog 20 = some ⟨false, 1, 16, [.nilIface], [], (.iface true)⟩ := by kernel_rfl
theorem ly21 : layOf Try.prog 21 = some ⟨false, 1, 4, [.int .i32 0], [], (.int .i32)⟩ := by kernel_rfl
theorem ly22 : layOf Try.prog 22 = some ⟨false, 1, 24, [.slice none 0 0], [], (.slice 39)⟩ := by kernel_rfl
theorem ly23 : layOf Try.prog 23 = some ⟨false, 1, 24, [.slice none 0 0], [], (.slice 9)⟩ := by kernel_rfl
theorem ly24 : layOf Try.prog 24 = some ⟨true, 4, 56, [.string ByteArray.empty, .slice none 0 0, .int .i64 0, .int .i64 0], [(0, 1, false), (1, 1, false), (2, 1, false), (3, 1, false)], .strukt⟩ := by kernel_rfl
theorem ly25 : layOf Try.prog 25 = some ⟨true, 4, 56, [.string ByteArray.empty, .slice none 0 0, .int .i64 0, .int .i64 0], [(0, 1, false), (1, 1, false), (2, 1, false), (3, 1, false)], .strukt⟩ := by kernel_rfl
theorem ly28 : layOf Try.prog 28 = some ⟨false, 1, 24, [.slice none 0 0], [], (.slice 42)⟩ := by kernel_rfl
theorem ly29 : layOf Try.prog 29 = some ⟨true, 4, 56, [.string ByteArray.empty, .slice none 0 0, .int .i64 0, .int .i64 0], [(0, 1, false), (1, 1, false), (2, 1, false), (3, 1, false)], .strukt⟩ := by kernel_rfl
theorem ly31 : layOf Try.prog 31 = some ⟨true, 4, 48, [.slice none 0 0, .int .i64 0, .int .i64 0, .int .i64 0], [(0, 1, false), (1, 1, false), (2, 1, false), (3, 1, false)], .strukt⟩ := by kernel_rfl
theorem ly32 : layOf Try.prog 32 = some ⟨true, 4, 48, [.slice none 0 0, .int .i64 0, .int .i64 0, .int .i64 0], [(0, 1, false), (1, 1, false), (2, 1, false), (3, 1, false)], .strukt⟩ := by kernel_rfl
theorem ly33 : layOf Try.prog 33 = some ⟨false, 1, 16, [.nilIface], [], (.iface false)⟩ := by kernel_rfl
theorem ly34 : layOf Try.prog 34 = some ⟨false, 1, 16, [.nilIface], [], (.iface false)⟩ := by kernel_rfl
theorem ly38 : layOf Try.prog 38 = some ⟨true, 10, 128, [.string ByteArray.empty, .string ByteArray.empty, .string ByteArray.empty, .string ByteArray.empty, .string ByteArray.empty, .string ByteArray.empty, .string ByteArray.empty, .int .i64 0, .bool false, .bool false], [(0, 1, false), (1, 1, false), (2, 1, false), (3, 1, false), (4, 1, false), (5, 1, false), (6, 1, false), (7, 1, false), (8, 1, false), (9, 1, false)], .strukt⟩ := by kernel_rfl
theorem ly39 : layOf Try.prog 39 = some ⟨true, 10, 128, [.string ByteArray.empty, .string ByteArray.empty, .string ByteArray.empty, .string ByteArray.empty, .string ByteArray.empty, .string ByteArray.empty, .string ByteArray.empty, .int .i64 0, .bool false, .bool false], [(0, 1, false), (1, 1, false), (2, 1, false), (3, 1, false), (4, 1, false), (5, 1, false), (6, 1, false), (7, 1, false), (8, 1, false), (9, 1, false)], .strukt⟩ := by kernel_rfl
theorem ly42 : layOf Try.prog 42 = some ⟨true, 10, 128, [.string ByteArray.empty, .string ByteArray.empty, .string ByteArray.empty, .string ByteArray.empty, .string ByteArray.empty, .string ByteArray.empty, .string ByteArray.empty, .int .i64 0, .bool false, .bool false], [(0, 1, false), (1, 1, false), (2, 1, false), (3, 1, false), (4, 1, false), (5, 1, false), (6, 1, false), (7, 1, false), (8, 1, false), (9, 1, false)], .strukt⟩ := by kernel_rfl
theorem ly45 : layOf Try.prog 45 = some ⟨false, 1, 8, [.pointer none], [], (.pointer 48)⟩ := by kernel_rfl
theorem ly46 : layOf Try.prog 46 = some ⟨false, 1, 8, [.int .i64 0], [], (.int .i64)⟩ := by kernel_rfl
theorem ly47 : layOf Try.prog 47 = some ⟨true, 3, 40, [.int .i64 0, .string ByteArray.empty, .nilIface], [(0, 1, false), (1, 1, false), (2, 1, false)], .strukt⟩ := by kernel_rfl
theorem ly48 : layOf Try.prog 48 = some ⟨true, 3, 40, [.int .i64 0, .string ByteArray.empty, .nilIface], [(0, 1, false), (1, 1, false), (2, 1, false)], .strukt⟩ := by kernel_rfl
theorem ly54 : layOf Try.prog 54 = some ⟨false, 1, 24, [.slice none 0 0], [], (.slice 5)⟩ := by kernel_rfl
theorem ly64 : layOf Try.prog 64 = some ⟨false, 1, 8, [.int .u64 0], [], (.int .u64)⟩ := by kernel_rfl
theorem ly65 : layOf Try.prog 65 = some ⟨false, 1, 4, [.int .u32 0], [], (.int .u32)⟩ := by kernel_rfl
theorem ly69 : layOf Try.prog 69 = some ⟨true, 4, 40, [.pointer none, .pointer none, .pointer none, .string ByteArray.empty], [(0, 1, false), (1, 1, false), (2, 1, false), (3, 1, false)], .strukt⟩ := by kernel_rfl
theorem ly70 : layOf Try.prog 70 = some ⟨true, 4, 40, [.pointer none, .pointer none, .pointer none, .string ByteArray.empty], [(0, 1, false), (1, 1, false), (2, 1, false), (3, 1, false)], .strukt⟩ := by kernel_rfl
theorem ly72 : layOf Try.prog 72 = some ⟨true, 0, 0, [], [(0, 0, true)], .strukt⟩ := by kernel_rfl
theorem ly73 : layOf Try.prog 73 = some ⟨true, 0, 0, [], [(0, 0, true)], .strukt⟩ := by kernel_rfl
theorem ly75 : layOf Try.prog 75 = some ⟨false, 1, 1, [.int .u8 0], [], (.int .u8)⟩ := by kernel_rfl
theorem ly76 : layOf Try.prog 76 = some ⟨false, 1, 1, [.int .u8 0], [], (.int .u8)⟩ := by kernel_rfl
theorem ly78 : layOf Try.prog 78 = some ⟨false, 1, 8, [.pointer none], [], (.pointer 5)⟩ := by kernel_rfl
theorem ly79 : layOf Try.prog 79 = some ⟨false, 1, 4, [.int .i32 0], [], (.int .i32)⟩ := by kernel_rfl
theorem ly80 : layOf Try.prog 80 = some ⟨false, 1, 4, [.int .i32 0], [], (.int .i32)⟩ := by kernel_rfl
theorem ly81 : layOf Try.prog 81 = some ⟨true, 11, 48, [.int .u64 0, .int .u64 0, .int .u32 0, .int .u8 0, .int .u8 0, .int .u8 0, .int .u8 0, .nilFunc, .pointer none, .int .i32 0, .int .i32 0], [(0, 1, false), (1, 1, false), (2, 1, false), (3, 1, false), (4, 1, false), (5, 1, false), (6, 1, false), (7, 1, false), (8, 1, false), (9, 1, false), (10, 1, false)], .strukt⟩ := by kernel_rfl
theorem ly82 : layOf Try.prog 82 = some ⟨true, 11, 48, [.int .u64 0, .int .u64 0, .int .u32 0, .int .u8 0, .int .u8 0, .int .u8 0, .int .u8 0, .nilFunc, .pointer none, .int .i32 0, .int .i32 0], [(0, 1, false), (1, 1, false), (2, 1, false), (3, 1, false), (4, 1, false), (5, 1, false), (6, 1, false), (7, 1, false), (8, 1, false), (9, 1, false), (10, 1, false)], .strukt⟩ := by kernel_rfl
theorem ly85 : layOf Try.prog 85 = some ⟨false, 1, 8, [.int .i64 0], [], (.int .i64)⟩ := by kernel_rfl
theorem ly86 : layOf Try.prog 86 = some ⟨false, 1, 24, [.slice none 0 0], [], (.slice 89)⟩ := by kernel_rfl
theorem ly87 : layOf Try.prog 87 = some ⟨false, 1, 24, [.slice none 0 0], [], (.slice 91)⟩ := by kernel_rfl
theorem ly88 : layOf Try.prog 88 = some ⟨true, 6, 88, [.int .i64 0, .bool false, .int .i64 0, .string ByteArray.empty, .slice none 0 0, .slice none 0 0], [(0, 1, false), (1, 1, false), (2, 1, false), (3, 1, false), (4, 1, false), (5, 1, false)], .strukt⟩ := by kernel_rfl
theorem ly89 : layOf Try.prog 89 = some ⟨true, 6, 88, [.int .i64 0, .bool false, .int .i64 0, .string ByteArray.empty, .slice none 0 0, .slice none 0 0], [(0, 1, false), (1, 1, false), (2, 1, false), (3, 1, false), (4, 1, false), (5, 1, false)], .strukt⟩ := by kernel_rfl
theorem ly90 : layOf Try.prog 90 = some ⟨true, 7, 104, [.string ByteArray.empty, .int .i64 0, .bool false, .int .i64 0, .string ByteArray.empty, .slice none 0 0, .slice none 0 0], [(0, 1, false), (1, 6, true)], .strukt⟩ := by kernel_rfl
theorem ly91 : layOf Try.prog 91 = some ⟨true, 7, 104, [.string ByteArray.empty, .int .i64 0, .bool false, .int .i64 0, .string ByteArray.empty, .slice none 0 0, .slice none 0 0], [(0, 1, false), (1, 6, true)], .strukt⟩ := by kernel_rfl
theorem fo3 : FnOk Try.prog 3 := fnOk_of (by kernel_rfl)
theorem fo4 : FnOk Try.prog 4 := fnOk_of (by kernel_rfl)
theorem fo5 : FnOk Try.prog 5 := fnOk_of (by kernel_rfl)
theorem fo6 : FnOk Try.prog 6 := fnOk_of (by kernel_rfl)
theorem fo7 : FnOk Try.prog 7 := fnOk_of (by kernel_rfl)
theorem fo8 : FnOk Try.prog 8 := fnOk_of (by kernel_rfl)
theorem fo9 : FnOk Try.prog 9 := fnOk_of (by kernel_rfl)
theorem fo10 : FnOk Try.prog 10 := fnOk_of (by kernel_rfl)
theorem fo11 : FnOk Try.prog 11 := fnOk_of (by kernel_rfl)
theorem fo12 : FnOk Try.prog 12 := fnOk_of (by kernel_rfl)
theorem fo13 : FnOk Try.prog 13 := fnOk_of (by kernel_rfl)
theorem fo14 : FnOk Try.prog 14 := fnOk_of (by kernel_rfl)
theorem fo15 : FnOk Try.prog 15 := fnOk_of (by kernel_rfl)
theorem fo16 : FnOk Try.prog 16 := fnOk_of (by kernel_rfl)
theorem fo17 : FnOk Try.prog 17 := fnOk_of (by kernel_rfl)
theorem fo18 : FnOk Try.prog 18 := fnOk_of (by kernel_rfl)
theorem fo19 : FnOk Try.prog 19 := fnOk_of (by kernel_rfl)
theorem fo20 : FnOk Try.prog 20 := fnOk_of (by kernel_rfl)
theorem fo21 : FnOk Try.prog 21 := fnOk_of (by kernel_rfl)
theorem fo22 : FnOk Try.prog 22 := fnOk_of (by kernel_rfl)
theorem fo23 : FnOk Try.prog 23 := fnOk_of (by kernel_rfl)
theorem fo24 : FnOk Try.prog 24 := fnOk_of (by kernel_rfl)
theorem fo25 : FnOk Try.prog 25 := fnOk_of (by kernel_rfl)
theorem fo26 : FnOk Try.prog 26 := fnOk_of (by kernel_rfl)
theorem fo27 : FnOk Try.prog 27 := fnOk_of (by kernel_rfl)
theorem fo28 : FnOk Try.prog 28 := fnOk_of (by kernel_rfl)
attribute [simp] ly2 ly3 ly4 ly5 ly6 ly7 ly8 ly9 ly10 ly11 ly12 ly13 ly14 ly15 ly16 ly17 ly18 ly19 ly20 ly21 ly22 ly23 ly24 ly25 ly28 ly29 ly31 ly32 ly33 ly34 ly38 ly39 ly42 ly45 ly46 ly47 ly48 ly54 ly64 ly65 ly69 ly70 ly72 ly73 ly75 ly76 ly78 ly79 ly80 ly81 ly82 ly85 ly86 ly87 ly88 ly89 ly90 ly91
attribute [simp] fo3 fo4 fo5 fo6 fo7 fo8 fo9 fo10 fo11 fo12 fo13 fo14 fo15 fo16 fo17 fo18 fo19 fo20 fo21 fo22 fo23 fo24 fo25 fo26 fo27 fo28
end Go.Proofs.Ytmpbofmhjjgccaa
