/- What the types of this program are. -/
import Derived.Test.YtibknlfadoeglaaAmS
import Derived.Test.YtibknlfadoeglaaProg
import Derived.KernelRfl
namespace Go.Proofs.Ytibknlfadoeglaa
set_option linter.all false
theorem mix : Try.prog.follows .mixedOrders = true := by kernel_rfl
theorem it3 : intTy Try.prog 3 = true := by kernel_rfl
theorem ty3 : ty Try.prog 3 = some ⟨.int .i64, false, 1, 8, [.int .i64 0]⟩ := by kernel_rfl
theorem ty4 : ty Try.prog 4 = some ⟨.bool, false, 1, 1, [.bool false]⟩ := by kernel_rfl
theorem ty5 : ty Try.prog 5 = some ⟨.int .u8, false, 1, 1, [.int .u8 0]⟩ := by kernel_rfl
theorem ty9 : ty Try.prog 9 = some ⟨.str, false, 1, 16, [.string ByteArray.empty]⟩ := by kernel_rfl
theorem ty20 : ty Try.prog 20 = some ⟨.ifc, false, 1, 16, [.nilIface]⟩ := by kernel_rfl
theorem ty22 : ty Try.prog 22 = some ⟨.int .u32, false, 1, 4, [.int .u32 0]⟩ := by kernel_rfl
theorem ty23 : ty Try.prog 23 = some ⟨.sl 22, false, 1, 24, [.slice none 0 0]⟩ := by kernel_rfl
theorem ty25 : ty Try.prog 25 = some ⟨.st [some (0, 1, false), some (1, 1, false)], true, 2, 32, [.int .u32 0, .slice none 0 0]⟩ := by kernel_rfl
theorem it26 : intTy Try.prog 26 = true := by kernel_rfl
theorem ty26 : ty Try.prog 26 = some ⟨.int .i64, false, 1, 8, [.int .i64 0]⟩ := by kernel_rfl
theorem ty38 : ty Try.prog 38 = some ⟨.sl 3, false, 1, 24, [.slice none 0 0]⟩ := by kernel_rfl
theorem ty40 : ty Try.prog 40 = some ⟨.st [some (0, 1, false), some (1, 1, false), some (2, 1, false)], true, 3, 40, [.int .i64 0, .int .i64 0, .slice none 0 0]⟩ := by kernel_rfl
theorem ty42 : ty Try.prog 42 = some ⟨.st [some (0, 1, false), some (1, 1, false)], true, 2, 16, [.int .i64 0, .int .i64 0]⟩ := by kernel_rfl
theorem ty43 : ty Try.prog 43 = some ⟨.sl 42, false, 1, 24, [.slice none 0 0]⟩ := by kernel_rfl
theorem ty54 : ty Try.prog 54 = some ⟨.sl 81, false, 1, 24, [.slice none 0 0]⟩ := by kernel_rfl
theorem ty55 : ty Try.prog 55 = some ⟨.sl 64, false, 1, 24, [.slice none 0 0]⟩ := by kernel_rfl
theorem ty64 : ty Try.prog 64 = some ⟨.st [some (0, 1, false), some (1, 1, false), some (2, 1, false), some (3, 2, true), some (5, 1, false)], true, 6, 48, [.int .i64 0, .int .i64 0, .int .i64 0, .int .i64 0, .int .i64 0, .int .i64 0]⟩ := by kernel_rfl
theorem ty66 : ty Try.prog 66 = some ⟨.sl 9, false, 1, 24, [.slice none 0 0]⟩ := by kernel_rfl
theorem ty67 : ty Try.prog 67 = some ⟨.int .u64, false, 1, 8, [.int .u64 0]⟩ := by kernel_rfl
theorem ty68 : ty Try.prog 68 = some ⟨.sl 67, false, 1, 24, [.slice none 0 0]⟩ := by kernel_rfl
theorem ty81 : ty Try.prog 81 = some ⟨.st [some (0, 1, false), some (1, 1, false), some (2, 1, false)], true, 3, 40, [.slice none 0 0, .int .i64 0, .bool false]⟩ := by kernel_rfl
theorem ty84 : ty Try.prog 84 = some ⟨.sl 91, false, 1, 24, [.slice none 0 0]⟩ := by kernel_rfl
theorem ty86 : ty Try.prog 86 = some ⟨.st [some (0, 3, true), some (3, 1, false), some (4, 1, false), some (5, 1, false), some (6, 1, false), some (7, 1, false), some (8, 1, false)], true, 9, 152, [.int .i64 0, .int .i64 0, .slice none 0 0, .slice none 0 0, .slice none 0 0, .slice none 0 0, .slice none 0 0, .int .i64 0, .int .i64 0]⟩ := by kernel_rfl
theorem ty91 : ty Try.prog 91 = some ⟨.st [some (0, 1, false), some (1, 1, false), some (2, 1, false), some (3, 2, true), some (5, 1, false), some (6, 1, false)], true, 7, 56, [.int .i64 0, .int .i64 0, .int .i64 0, .int .i64 0, .int .i64 0, .int .i64 0, .int .i64 0]⟩ := by kernel_rfl
theorem ty104 : ty Try.prog 104 = some ⟨.sl 112, false, 1, 24, [.slice none 0 0]⟩ := by kernel_rfl
theorem ty105 : ty Try.prog 105 = some ⟨.sl 116, false, 1, 24, [.slice none 0 0]⟩ := by kernel_rfl
theorem ty106 : ty Try.prog 106 = some ⟨.sl 120, false, 1, 24, [.slice none 0 0]⟩ := by kernel_rfl
theorem ty112 : ty Try.prog 112 = some ⟨.st [some (0, 1, false), some (1, 1, false)], true, 2, 16, [.int .i64 0, .int .i64 0]⟩ := by kernel_rfl
theorem ty116 : ty Try.prog 116 = some ⟨.st [some (0, 1, false), some (1, 2, true)], true, 3, 24, [.int .i64 0, .int .i64 0, .int .i64 0]⟩ := by kernel_rfl
theorem ty120 : ty Try.prog 120 = some ⟨.st [some (0, 1, false), some (1, 1, false), some (2, 2, true), some (4, 1, false)], true, 5, 40, [.int .i64 0, .int .i64 0, .int .i64 0, .int .i64 0, .int .i64 0]⟩ := by kernel_rfl
theorem ty124 : ty Try.prog 124 = some ⟨.st [some (0, 1, false), some (1, 1, false), some (2, 1, false), some (3, 1, false)], true, 4, 32, [.int .i64 0, .int .i64 0, .int .i64 0, .int .i64 0]⟩ := by kernel_rfl
theorem ty138 : ty Try.prog 138 = some ⟨.sl 208, false, 1, 24, [.slice none 0 0]⟩ := by kernel_rfl
theorem ty139 : ty Try.prog 139 = some ⟨.sl 220, false, 1, 24, [.slice none 0 0]⟩ := by kernel_rfl
theorem ty140 : ty Try.prog 140 = some ⟨.sl 215, false, 1, 24, [.slice none 0 0]⟩ := by kernel_rfl
theorem ty142 : ty Try.prog 142 = some ⟨.st [some (0, 1, false), some (1, 1, false)], true, 2, 48, [.slice none 0 0, .slice none 0 0]⟩ := by kernel_rfl
theorem ty153 : ty Try.prog 153 = some ⟨.ptr 25, false, 1, 8, [.pointer none]⟩ := by kernel_rfl
theorem ty156 : ty Try.prog 156 = some ⟨.int .u64, false, 1, 8, [.int .u64 0]⟩ := by kernel_rfl
theorem ty160 : ty Try.prog 160 = some ⟨.arr 2 42, true, 4, 32, [.int .i64 0, .int .i64 0, .int .i64 0, .int .i64 0]⟩ := by kernel_rfl
theorem ty176 : ty Try.prog 176 = some ⟨.sl 180, false, 1, 24, [.slice none 0 0]⟩ := by kernel_rfl
theorem ty178 : ty Try.prog 178 = some ⟨.ptr 176, false, 1, 8, [.pointer none]⟩ := by kernel_rfl
theorem ty180 : ty Try.prog 180 = some ⟨.st [some (0, 1, false), some (1, 1, false)], true, 2, 16, [.int .i64 0, .int .i64 0]⟩ := by kernel_rfl
theorem ty186 : ty Try.prog 186 = some ⟨.mp 3 3, false, 1, 8, [.map none]⟩ := by kernel_rfl
theorem ty188 : ty Try.prog 188 = some ⟨.st [some (0, 1, false), some (1, 1, false), some (2, 1, false)], true, 3, 72, [.slice none 0 0, .slice none 0 0, .slice none 0 0]⟩ := by kernel_rfl
theorem ty191 : ty Try.prog 191 = some ⟨.sl 124, false, 1, 24, [.slice none 0 0]⟩ := by kernel_rfl
theorem ty208 : ty Try.prog 208 = some ⟨.st [some (0, 1, false), some (1, 1, false), some (2, 1, false), some (3, 1, false)], true, 4, 32, [.int .i64 0, .int .i64 0, .int .i64 0, .int .i64 0]⟩ := by kernel_rfl
theorem ty211 : ty Try.prog 211 = some ⟨.st [some (0, 2, true)], true, 2, 48, [.slice none 0 0, .slice none 0 0]⟩ := by kernel_rfl
theorem ty215 : ty Try.prog 215 = some ⟨.st [some (0, 1, false), some (1, 1, false), some (2, 1, false), some (3, 1, false), some (4, 1, false), some (5, 1, false)], true, 6, 64, [.int .i64 0, .int .u32 0, .slice none 0 0, .bool false, .int .i64 0, .int .u32 0]⟩ := by kernel_rfl
theorem ty216 : ty Try.prog 216 = some ⟨.arr 51 215, true, 306, 3264, [.int .i64 0, .int .u32 0, .slice none 0 0, .bool false, .int .i64 0, .int .u32 0, .int .i64 0, .int .u32 0, .slice none 0 0, .bool false, .int .i64 0, .int .u32 0, .int .i64 0, .int .u32 0, .slice none 0 0, .bool false, .int .i64 0, .int .u32 0, .int .i64 0, .int .u32 0, .slice none 0 0, .bool false, .int .i64 0, .int .u32 0, .int .i64 0, .int .u32 0, .slice none 0 0, .bool false, .int .i64 0, .int .u32 0, .int .i64 0, .int .u32 0, .slice none 0 0, .bool false, .int .i64 0, .int .u32 0, .int .i64 0, .int .u32 0, .slice none 0 0, .bool false, .int .i64 0, .int .u32 0, .int .i64 0, .int .u32 0, .slice none 0 0, .bool false, .int .i64 0, .int .u32 0, .int .i64 0, .int .u32 0, .slice none 0 0, .bool false, .int .i64 0, .int .u32 0, .int .i64 0, .int .u32 0, .slice none 0 0, .bool false, .int .i64 0, .int .u32 0, .int .i64 0, .int .u32 0, .slice none 0 0, .bool false, .int .i64 0, .int .u32 0, .int .i64 0, .int .u32 0, .slice none 0 0, .bool false, .int .i64 0, .int .u32 0, .int .i64 0, .int .u32 0, .slice none 0 0, .bool false, .int .i64 0, .int .u32 0, .int .i64 0, .int .u32 0, .slice none 0 0, .bool false, .int .i64 0, .int .u32 0, .int .i64 0, .int .u32 0, .slice none 0 0, .bool false, .int .i64 0, .int .u32 0, .int .i64 0, .int .u32 0, .slice none 0 0, .bool false, .int .i64 0, .int .u32 0, .int .i64 0, .int .u32 0, .slice none 0 0, .bool false, .int .i64 0, .int .u32 0, .int .i64 0, .int .u32 0, .slice none 0 0, .bool false, .int .i64 0, .int .u32 0, .int .i64 0, .int .u32 0, .slice none 0 0, .bool false, .int .i64 0, .int .u32 0, .int .i64 0, .int .u32 0, .slice none 0 0, .bool false, .int .i64 0, .int .u32 0, .int .i64 0, .int .u32 0, .slice none 0 0, .bool false, .int .i64 0, .int .u32 0, .int .i64 0, .int .u32 0, .slice none 0 0, .bool false, .int .i64 0, .int .u32 0, .int .i64 0, .int .u32 0, .slice none 0 0, .bool false, .int .i64 0, .int .u32 0, .int .i64 0, .int .u32 0, .slice none 0 0, .bool false, .int .i64 0, .int .u32 0, .int .i64 0, .int .u32 0, .slice none 0 0, .bool false, .int .i64 0, .int .u32 0, .int .i64 0, .int .u32 0, .slice none 0 0, .bool false, .int .i64 0, .int .u32 0, .int .i64 0, .int .u32 0, .slice none 0 0, .bool false, .int .i64 0, .int .u32 0, .int .i64 0, .int .u32 0, .slice none 0 0, .bool false, .int .i64 0, .int .u32 0, .int .i64 0, .int .u32 0, .slice none 0 0, .bool false, .int .i64 0, .int .u32 0, .int .i64 0, .int .u32 0, .slice none 0 0, .bool false, .int .i64 0, .int .u32 0, .int .i64 0, .int .u32 0, .slice none 0 0, .bool false, .int .i64 0, .int .u32 0, .int .i64 0, .int .u32 0, .slice none 0 0, .bool false, .int .i64 0, .int .u32 0, .int .i64 0, .int .u32 0, .slice none 0 0, .bool false, .int .i64 0, .int .u32 0, .int .i64 0, .int .u32 0, .slice none 0 0, .bool false, .int .i64 0, .int .u32 0, .int .i64 0, .int .u32 0, .slice none 0 0, .bool false, .int .i64 0, .int .u32 0, .int .i64 0, .int .u32 0, .slice none 0 0, .bool false, .int .i64 0, .int .u32 0, .int .i64 0, .int .u32 0, .slice none 0 0, .bool false, .int .i64 0, .int .u32 0, .int .i64 0, .int .u32 0, .slice none 0 0, .bool false, .int .i64 0, .int .u32 0, .int .i64 0, .int .u32 0, .slice none 0 0, .bool false, .int .i64 0, .int .u32 0, .int .i64 0, .int .u32 0, .slice none 0 0, .bool false, .int .i64 0, .int .u32 0, .int .i64 0, .int .u32 0, .slice none 0 0, .bool false, .int .i64 0, .int .u32 0, .int .i64 0, .int .u32 0, .slice none 0 0, .bool false, .int .i64 0, .int .u32 0, .int .i64 0, .int .u32 0, .slice none 0 0, .bool false, .int .i64 0, .int .u32 0, .int .i64 0, .int .u32 0, .slice none 0 0, .bool false, .int .i64 0, .int .u32 0, .int .i64 0, .int .u32 0, .slice none 0 0, .bool false, .int .i64 0, .int .u32 0, .int .i64 0, .int .u32 0, .slice none 0 0, .bool false, .int .i64 0, .int .u32 0, .int .i64 0, .int .u32 0, .slice none 0 0, .bool false, .int .i64 0, .int .u32 0, .int .i64 0, .int .u32 0, .slice none 0 0, .bool false, .int .i64 0, .int .u32 0, .int .i64 0, .int .u32 0, .slice none 0 0, .bool false, .int .i64 0, .int .u32 0, .int .i64 0, .int .u32 0, .slice none 0 0, .bool false, .int .i64 0, .int .u32 0, .int .i64 0, .int .u32 0, .slice none 0 0, .bool false, .int .i64 0, .int .u32 0]⟩ := by kernel_rfl
theorem ty217 : ty Try.prog 217 = some ⟨.arr 51 4, true, 51, 51, [.bool false, .bool false, .bool false, .bool false, .bool false, .bool false, .bool false, .bool false, .bool false, .bool false, .bool false, .bool false, .bool false, .bool false, .bool false, .bool false, .bool false, .bool false, .bool false, .bool false, .bool false, .bool false, .bool false, .bool false, .bool false, .bool false, .bool false, .bool false, .bool false, .bool false, .bool false, .bool false, .bool false, .bool false, .bool false, .bool false, .bool false, .bool false, .bool false, .bool false, .bool false, .bool false, .bool false, .bool false, .bool false, .bool false, .bool false, .bool false, .bool false, .bool false, .bool false]⟩ := by kernel_rfl
theorem ty220 : ty Try.prog 220 = some ⟨.st [some (0, 1, false), some (1, 1, false), some (2, 1, false)], true, 3, 24, [.int .i64 0, .int .i64 0, .int .i64 0]⟩ := by kernel_rfl
theorem ty235 : ty Try.prog 235 = some ⟨.sl 5, false, 1, 24, [.slice none 0 0]⟩ := by kernel_rfl
theorem ty242 : ty Try.prog 242 = some ⟨.ifc, false, 1, 16, [.nilIface]⟩ := by kernel_rfl
theorem ty253 : ty Try.prog 253 = some ⟨.mp 42 3, false, 1, 8, [.map none]⟩ := by kernel_rfl
theorem ty254 : ty Try.prog 254 = some ⟨.ptr 256, false, 1, 8, [.pointer none]⟩ := by kernel_rfl
theorem ty256 : ty Try.prog 256 = some ⟨.st [some (0, 1, false), some (1, 1, false)], true, 2, 32, [.pointer none, .slice none 0 0]⟩ := by kernel_rfl
theorem ty270 : ty Try.prog 270 = some ⟨.ptr 211, false, 1, 8, [.pointer none]⟩ := by kernel_rfl
theorem ty281 : ty Try.prog 281 = some ⟨.sl 68, false, 1, 24, [.slice none 0 0]⟩ := by kernel_rfl
theorem ty283 : ty Try.prog 283 = some ⟨.ptr 5, false, 1, 8, [.pointer none]⟩ := by kernel_rfl
theorem fl42 : flatN Try.prog 9 42 = some [0, 0] := by kernel_rfl
theorem ag42 : aggT Try.prog 42 = true := by kernel_rfl
theorem fl64 : flatN Try.prog 9 64 = some [0, 0, 0, 0, 0, 0] := by kernel_rfl
theorem ag64 : aggT Try.prog 64 = true := by kernel_rfl
theorem fl112 : flatN Try.prog 9 112 = some [0, 0] := by kernel_rfl
theorem ag112 : aggT Try.prog 112 = true := by kernel_rfl
theorem fl116 : flatN Try.prog 9 116 = some [0, 0, 0] := by kernel_rfl
theorem ag116 : aggT Try.prog 116 = true := by kernel_rfl
theorem fl120 : flatN Try.prog 9 120 = some [0, 0, 0, 0, 0] := by kernel_rfl
theorem ag120 : aggT Try.prog 120 = true := by kernel_rfl
theorem fl124 : flatN Try.prog 9 124 = some [0, 0, 0, 0] := by kernel_rfl
theorem ag124 : aggT Try.prog 124 = true := by kernel_rfl
theorem fl220 : flatN Try.prog 9 220 = some [0, 0, 0] := by kernel_rfl
theorem ag220 : aggT Try.prog 220 = true := by kernel_rfl
attribute [push_cast] it3 ty3 ty4 ty5 ty9 ty20 ty22 ty23 ty25 it26 ty26 ty38 ty40 ty42 ty43 ty54 ty55 ty64 ty66 ty67 ty68 ty81 ty84 ty86 ty91 ty104 ty105 ty106 ty112 ty116 ty120 ty124 ty138 ty139 ty140 ty142 ty153 ty156 ty160 ty176 ty178 ty180 ty186 ty188 ty191 ty208 ty211 ty215 ty216 ty217 ty220 ty235 ty242 ty253 ty254 ty256 ty270 ty281 ty283 fl42 ag42 fl64 ag64 fl112 ag112 fl116 ag116 fl120 ag120 fl124 ag124 fl220 ag220
end Go.Proofs.Ytibknlfadoeglaa
