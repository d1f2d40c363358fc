/- The types of the program, as our machine wants them. No condition. -/
import Derived.Test.YtgchhmfobkcnfaaProg
import Derived.Test.YtgchhmfobkcnfaaAm16
import Derived.KernelRfl
namespace Go.Proofs.Ytgchhmfobkcnfaa.A
open Go
set_option linter.unusedVariables false
def ti1 : TI := { size := 1, bytes := 8, zero := .nilFunc, d := .other }
theorem tok1 : TOkAt Try.prog 1 ti1 := TOkAt.mk' (by kernel_rfl) (by kernel_rfl) (fun h => by cases h)
def ti2 : TI := { size := 1, bytes := 8, zero := .int .i64 0, d := .int .i64 }
theorem tok2 : TOkAt Try.prog 2 ti2 := TOkAt.mk' (by kernel_rfl) (by kernel_rfl) (fun h => by cases h)
def ti3 : TI := { size := 1, bytes := 8, zero := .int .i64 0, d := .int .i64 }
theorem tok3 : TOkAt Try.prog 3 ti3 := TOkAt.mk' (by kernel_rfl) (by kernel_rfl) (fun h => by cases h)
def ti4 : TI := { size := 1, bytes := 1, zero := .bool false, d := .bool }
theorem tok4 : TOkAt Try.prog 4 ti4 := TOkAt.mk' (by kernel_rfl) (by kernel_rfl) (fun h => by cases h)
def ti5 : TI := { size := 1, bytes := 1, zero := .int .u8 0, d := .int .u8 }
theorem tok5 : TOkAt Try.prog 5 ti5 := TOkAt.mk' (by kernel_rfl) (by kernel_rfl) (fun h => by cases h)
def ti6 : TI := { size := 1, bytes := 1, zero := .int .u8 0, d := .int .u8 }
theorem tok6 : TOkAt Try.prog 6 ti6 := TOkAt.mk' (by kernel_rfl) (by kernel_rfl) (fun h => by cases h)
def ti7 : TI := { size := 4, bytes := 24, zero := .agg #[.int .i64 0, .int .i64 0, .bool false, .int .u8 0], d := .strct [(0, 2, false), (1, 3, false), (2, 4, false), (3, 6, false)] }
theorem tok7 : TOkAt Try.prog 7 ti7 := TOkAt.mk' (by kernel_rfl) (by kernel_rfl) (fun h => by cases h)
def ti8 : TI := { size := 4, bytes := 24, zero := .agg #[.int .i64 0, .int .i64 0, .bool false, .int .u8 0], d := .strct [(0, 2, false), (1, 3, false), (2, 4, false), (3, 6, false)] }
theorem tok8 : TOkAt Try.prog 8 ti8 := TOkAt.mk' (by kernel_rfl) (by kernel_rfl) (fun h => by cases h)
def ti9 : TI := { size := 1, bytes := 16, zero := .string ⟨#[]⟩, d := .str }
theorem tok9 : TOkAt Try.prog 9 ti9 := TOkAt.mk' (by kernel_rfl) (by kernel_rfl) (fun h => by cases h)
def ti10 : TI := { size := 1, bytes := 16, zero := .string ⟨#[]⟩, d := .str }
theorem tok10 : TOkAt Try.prog 10 ti10 := TOkAt.mk' (by kernel_rfl) (by kernel_rfl) (fun h => by cases h)
def ti11 : TI := { size := 1, bytes := 16, zero := .string ⟨#[]⟩, d := .str }
theorem tok11 : TOkAt Try.prog 11 ti11 := TOkAt.mk' (by kernel_rfl) (by kernel_rfl) (fun h => by cases h)
def ti12 : TI := { size := 1, bytes := 8, zero := .int .u64 0, d := .int .u64 }
theorem tok12 : TOkAt Try.prog 12 ti12 := TOkAt.mk' (by kernel_rfl) (by kernel_rfl) (fun h => by cases h)
def ti13 : TI := { size := 2, bytes := 24, zero := .agg #[.string ⟨#[]⟩, .int .u64 0], d := .strct [(0, 9, false), (1, 12, false)] }
theorem tok13 : TOkAt Try.prog 13 ti13 := TOkAt.mk' (by kernel_rfl) (by kernel_rfl) (fun h => by cases h)
def ti14 : TI := { size := 2, bytes := 24, zero := .agg #[.string ⟨#[]⟩, .int .u64 0], d := .strct [(0, 9, false), (1, 12, false)] }
theorem tok14 : TOkAt Try.prog 14 ti14 := TOkAt.mk' (by kernel_rfl) (by kernel_rfl) (fun h => by cases h)
def ti15 : TI := { size := 1, bytes := 8, zero := .pointer none, d := .ptr 162 }
theorem tok15 : TOkAt Try.prog 15 ti15 := TOkAt.mk' (by kernel_rfl) (by kernel_rfl) (fun h => by cases h)
def ti16 : TI := { size := 1, bytes := 8, zero := .pointer none, d := .ptr 165 }
theorem tok16 : TOkAt Try.prog 16 ti16 := TOkAt.mk' (by kernel_rfl) (by kernel_rfl) (fun h => by cases h)
def ti17 : TI := { size := 1, bytes := 8, zero := .pointer none, d := .ptr 175 }
theorem tok17 : TOkAt Try.prog 17 ti17 := TOkAt.mk' (by kernel_rfl) (by kernel_rfl) (fun h => by cases h)
def ti18 : TI := { size := 1, bytes := 8, zero := .agg #[.pointer none], d := .strct [(0, 17, false)] }
theorem tok18 : TOkAt Try.prog 18 ti18 := TOkAt.mk' (by kernel_rfl) (by kernel_rfl) (fun h => by cases h)
def ti19 : TI := { size := 1, bytes := 8, zero := .agg #[.pointer none], d := .strct [(0, 17, false)] }
theorem tok19 : TOkAt Try.prog 19 ti19 := TOkAt.mk' (by kernel_rfl) (by kernel_rfl) (fun h => by cases h)
def ti20 : TI := { size := 1, bytes := 16, zero := .nilIface, d := .iface }
theorem tok20 : TOkAt Try.prog 20 ti20 := TOkAt.mk' (by kernel_rfl) (by kernel_rfl) (fun h => by cases h)
def ti21 : TI := { size := 1, bytes := 4, zero := .int .i32 0, d := .int .i32 }
theorem tok21 : TOkAt Try.prog 21 ti21 := TOkAt.mk' (by kernel_rfl) (by kernel_rfl) (fun h => by cases h)
def ti22 : TI := { size := 1, bytes := 24, zero := .slice none 0 0, d := .slice 23 }
theorem tok22 : TOkAt Try.prog 22 ti22 := TOkAt.mk' (by kernel_rfl) (by kernel_rfl) (fun h => by cases h)
def ti23 : TI := { size := 1, bytes := 8, zero := .int .u64 0, d := .int .u64 }
theorem tok23 : TOkAt Try.prog 23 ti23 := TOkAt.mk' (by kernel_rfl) (by kernel_rfl) (fun h => by cases h)
def ti24 : TI := { size := 3, bytes := 32, zero := .agg #[.bool false, .string ⟨#[]⟩, .int .u64 0], d := .strct [(0, 4, false), (1, 9, false), (2, 23, false)], eqOk := true }
theorem tok24 : TOkAt Try.prog 24 ti24 := TOkAt.mk' (by kernel_rfl) (by kernel_rfl) (fun _ => ⟨by kernel_rfl, by kernel_rfl⟩)
def ti25 : TI := { size := 3, bytes := 32, zero := .agg #[.bool false, .string ⟨#[]⟩, .int .u64 0], d := .strct [(0, 4, false), (1, 9, false), (2, 23, false)], eqOk := true }
theorem tok25 : TOkAt Try.prog 25 ti25 := TOkAt.mk' (by kernel_rfl) (by kernel_rfl) (fun _ => ⟨by kernel_rfl, by kernel_rfl⟩)
def ti26 : TI := { size := 3, bytes := 40, zero := .agg #[.string ⟨#[]⟩, .string ⟨#[]⟩, .int .i64 0], d := .strct [(0, 9, false), (1, 9, false), (2, 3, false)], eqOk := true }
theorem tok26 : TOkAt Try.prog 26 ti26 := TOkAt.mk' (by kernel_rfl) (by kernel_rfl) (fun _ => ⟨by kernel_rfl, by kernel_rfl⟩)
def ti27 : TI := { size := 3, bytes := 40, zero := .agg #[.string ⟨#[]⟩, .string ⟨#[]⟩, .int .i64 0], d := .strct [(0, 9, false), (1, 9, false), (2, 3, false)], eqOk := true }
theorem tok27 : TOkAt Try.prog 27 ti27 := TOkAt.mk' (by kernel_rfl) (by kernel_rfl) (fun _ => ⟨by kernel_rfl, by kernel_rfl⟩)
def ti28 : TI := { size := 1, bytes := 24, zero := .slice none 0 0, d := .slice 81 }
theorem tok28 : TOkAt Try.prog 28 ti28 := TOkAt.mk' (by kernel_rfl) (by kernel_rfl) (fun h => by cases h)
def ti29 : TI := { size := 15, bytes := 184, zero := .agg #[.int .i64 0, .int .i64 0, .slice none 0 0, .int .u64 0, .bool false, .int .i64 0, .string ⟨#[]⟩, .bool false, .string ⟨#[]⟩, .int .u64 0, .string ⟨#[]⟩, .string ⟨#[]⟩, .int .i64 0, .int .i64 0, .slice none 0 0], d := .strct [(0, 3, false), (1, 3, false), (2, 22, false), (3, 23, false), (4, 4, false), (5, 3, false), (6, 9, false), (7, 25, false), (10, 27, false), (13, 3, false), (14, 28, false)] }
theorem tok29 : TOkAt Try.prog 29 ti29 := TOkAt.mk' (by kernel_rfl) (by kernel_rfl) (fun h => by cases h)
def ti30 : TI := { size := 15, bytes := 184, zero := .agg #[.int .i64 0, .int .i64 0, .slice none 0 0, .int .u64 0, .bool false, .int .i64 0, .string ⟨#[]⟩, .bool false, .string ⟨#[]⟩, .int .u64 0, .string ⟨#[]⟩, .string ⟨#[]⟩, .int .i64 0, .int .i64 0, .slice none 0 0], d := .strct [(0, 3, false), (1, 3, false), (2, 22, false), (3, 23, false), (4, 4, false), (5, 3, false), (6, 9, false), (7, 25, false), (10, 27, false), (13, 3, false), (14, 28, false)] }
theorem tok30 : TOkAt Try.prog 30 ti30 := TOkAt.mk' (by kernel_rfl) (by kernel_rfl) (fun h => by cases h)
def ti31 : TI := { size := 1, bytes := 8, zero := .nilFunc, d := .other }
theorem tok31 : TOkAt Try.prog 31 ti31 := TOkAt.mk' (by kernel_rfl) (by kernel_rfl) (fun h => by cases h)
def ti32 : TI := { size := 1, bytes := 8, zero := .nilFunc, d := .other }
theorem tok32 : TOkAt Try.prog 32 ti32 := TOkAt.mk' (by kernel_rfl) (by kernel_rfl) (fun h => by cases h)
def ti33 : TI := { size := 1, bytes := 8, zero := .int .i64 0, d := .int .i64 }
theorem tok33 : TOkAt Try.prog 33 ti33 := TOkAt.mk' (by kernel_rfl) (by kernel_rfl) (fun h => by cases h)
def ti35 : TI := { size := 1, bytes := 8, zero := .nilFunc, d := .other }
theorem tok35 : TOkAt Try.prog 35 ti35 := TOkAt.mk' (by kernel_rfl) (by kernel_rfl) (fun h => by cases h)
def ti37 : TI := { size := 1, bytes := 8, zero := .nilFunc, d := .other }
theorem tok37 : TOkAt Try.prog 37 ti37 := TOkAt.mk' (by kernel_rfl) (by kernel_rfl) (fun h => by cases h)
def ti38 : TI := { size := 1, bytes := 8, zero := .nilFunc, d := .other }
theorem tok38 : TOkAt Try.prog 38 ti38 := TOkAt.mk' (by kernel_rfl) (by kernel_rfl) (fun h => by cases h)
def ti39 : TI := { size := 1, bytes := 8, zero := .nilFunc, d := .other }
theorem tok39 : TOkAt Try.prog 39 ti39 := TOkAt.mk' (by kernel_rfl) (by kernel_rfl) (fun h => by cases h)
def ti41 : TI := { size := 1, bytes := 8, zero := .nilFunc, d := .other }
theorem tok41 : TOkAt Try.prog 41 ti41 := TOkAt.mk' (by kernel_rfl) (by kernel_rfl) (fun h => by cases h)
def ti42 : TI := { size := 1, bytes := 8, zero := .nilFunc, d := .other }
theorem tok42 : TOkAt Try.prog 42 ti42 := TOkAt.mk' (by kernel_rfl) (by kernel_rfl) (fun h => by cases h)
def ti43 : TI := { size := 1, bytes := 24, zero := .slice none 0 0, d := .slice 89 }
theorem tok43 : TOkAt Try.prog 43 ti43 := TOkAt.mk' (by kernel_rfl) (by kernel_rfl) (fun h => by cases h)
def ti44 : TI := { size := 5, bytes := 40, zero := .agg #[.int .i64 0, .int .u64 0, .int .u64 0, .int .u64 0, .int .u64 0], d := .strct [(0, 3, false), (1, 23, false), (2, 23, false), (3, 23, false), (4, 23, false)], eqOk := true }
theorem tok44 : TOkAt Try.prog 44 ti44 := TOkAt.mk' (by kernel_rfl) (by kernel_rfl) (fun _ => ⟨by kernel_rfl, by kernel_rfl⟩)
def ti45 : TI := { size := 5, bytes := 40, zero := .agg #[.int .i64 0, .int .u64 0, .int .u64 0, .int .u64 0, .int .u64 0], d := .strct [(0, 3, false), (1, 23, false), (2, 23, false), (3, 23, false), (4, 23, false)], eqOk := true }
theorem tok45 : TOkAt Try.prog 45 ti45 := TOkAt.mk' (by kernel_rfl) (by kernel_rfl) (fun _ => ⟨by kernel_rfl, by kernel_rfl⟩)
def ti46 : TI := { size := 12, bytes := 120, zero := .agg #[.int .i64 0, .int .u64 0, .bool false, .bool false, .string ⟨#[]⟩, .int .u64 0, .slice none 0 0, .int .i64 0, .int .u64 0, .int .u64 0, .int .u64 0, .int .u64 0], d := .strct [(0, 33, false), (1, 23, false), (2, 4, false), (3, 25, false), (6, 43, false), (7, 45, false)] }
theorem tok46 : TOkAt Try.prog 46 ti46 := TOkAt.mk' (by kernel_rfl) (by kernel_rfl) (fun h => by cases h)
def ti47 : TI := { size := 12, bytes := 120, zero := .agg #[.int .i64 0, .int .u64 0, .bool false, .bool false, .string ⟨#[]⟩, .int .u64 0, .slice none 0 0, .int .i64 0, .int .u64 0, .int .u64 0, .int .u64 0, .int .u64 0], d := .strct [(0, 33, false), (1, 23, false), (2, 4, false), (3, 25, false), (6, 43, false), (7, 45, false)] }
theorem tok47 : TOkAt Try.prog 47 ti47 := TOkAt.mk' (by kernel_rfl) (by kernel_rfl) (fun h => by cases h)
def ti48 : TI := { size := 1, bytes := 8, zero := .nilFunc, d := .other }
theorem tok48 : TOkAt Try.prog 48 ti48 := TOkAt.mk' (by kernel_rfl) (by kernel_rfl) (fun h => by cases h)
def ti49 : TI := { size := 1, bytes := 8, zero := .int .u64 0, d := .int .u64 }
theorem tok49 : TOkAt Try.prog 49 ti49 := TOkAt.mk' (by kernel_rfl) (by kernel_rfl) (fun h => by cases h)
def ti50 : TI := { size := 1, bytes := 8, zero := .nilFunc, d := .other }
theorem tok50 : TOkAt Try.prog 50 ti50 := TOkAt.mk' (by kernel_rfl) (by kernel_rfl) (fun h => by cases h)
def ti52 : TI := { size := 1, bytes := 8, zero := .nilFunc, d := .other }
theorem tok52 : TOkAt Try.prog 52 ti52 := TOkAt.mk' (by kernel_rfl) (by kernel_rfl) (fun h => by cases h)
def ti53 : TI := { size := 1, bytes := 8, zero := .nilFunc, d := .other }
theorem tok53 : TOkAt Try.prog 53 ti53 := TOkAt.mk' (by kernel_rfl) (by kernel_rfl) (fun h => by cases h)
def ti54 : TI := { size := 1, bytes := 8, zero := .nilFunc, d := .other }
theorem tok54 : TOkAt Try.prog 54 ti54 := TOkAt.mk' (by kernel_rfl) (by kernel_rfl) (fun h => by cases h)
def ti55 : TI := { size := 1, bytes := 8, zero := .pointer none, d := .ptr 33 }
theorem tok55 : TOkAt Try.prog 55 ti55 := TOkAt.mk' (by kernel_rfl) (by kernel_rfl) (fun h => by cases h)
def ti56 : TI := { size := 1, bytes := 8, zero := .nilFunc, d := .other }
theorem tok56 : TOkAt Try.prog 56 ti56 := TOkAt.mk' (by kernel_rfl) (by kernel_rfl) (fun h => by cases h)
def ti57 : TI := { size := 1, bytes := 8, zero := .nilFunc, d := .other }
theorem tok57 : TOkAt Try.prog 57 ti57 := TOkAt.mk' (by kernel_rfl) (by kernel_rfl) (fun h => by cases h)
def ti58 : TI := { size := 1, bytes := 24, zero := .slice none 0 0, d := .slice 60 }
theorem tok58 : TOkAt Try.prog 58 ti58 := TOkAt.mk' (by kernel_rfl) (by kernel_rfl) (fun h => by cases h)
def ti59 : TI := { size := 4, bytes := 72, zero := .agg #[.int .u64 0, .string ⟨#[]⟩, .slice none 0 0, .slice none 0 0], d := .strct [(0, 23, false), (1, 9, false), (2, 22, false), (3, 58, false)] }
theorem tok59 : TOkAt Try.prog 59 ti59 := TOkAt.mk' (by kernel_rfl) (by kernel_rfl) (fun h => by cases h)
def ti60 : TI := { size := 4, bytes := 72, zero := .agg #[.int .u64 0, .string ⟨#[]⟩, .slice none 0 0, .slice none 0 0], d := .strct [(0, 23, false), (1, 9, false), (2, 22, false), (3, 58, false)] }
theorem tok60 : TOkAt Try.prog 60 ti60 := TOkAt.mk' (by kernel_rfl) (by kernel_rfl) (fun h => by cases h)
def ti61 : TI := { size := 1, bytes := 8, zero := .nilFunc, d := .other }
theorem tok61 : TOkAt Try.prog 61 ti61 := TOkAt.mk' (by kernel_rfl) (by kernel_rfl) (fun h => by cases h)
def ti62 : TI := { size := 1, bytes := 24, zero := .slice none 0 0, d := .slice 64 }
theorem tok62 : TOkAt Try.prog 62 ti62 := TOkAt.mk' (by kernel_rfl) (by kernel_rfl) (fun h => by cases h)
def ti63 : TI := { size := 1, bytes := 8, zero := .nilFunc, d := .other }
theorem tok63 : TOkAt Try.prog 63 ti63 := TOkAt.mk' (by kernel_rfl) (by kernel_rfl) (fun h => by cases h)
def ti64 : TI := { size := 1, bytes := 8, zero := .int .i64 0, d := .int .i64 }
theorem tok64 : TOkAt Try.prog 64 ti64 := TOkAt.mk' (by kernel_rfl) (by kernel_rfl) (fun h => by cases h)
def ti65 : TI := { size := 1, bytes := 8, zero := .nilFunc, d := .other }
theorem tok65 : TOkAt Try.prog 65 ti65 := TOkAt.mk' (by kernel_rfl) (by kernel_rfl) (fun h => by cases h)
def ti66 : TI := { size := 1, bytes := 8, zero := .nilFunc, d := .other }
theorem tok66 : TOkAt Try.prog 66 ti66 := TOkAt.mk' (by kernel_rfl) (by kernel_rfl) (fun h => by cases h)
def ti67 : TI := { size := 1, bytes := 8, zero := .nilFunc, d := .other }
theorem tok67 : TOkAt Try.prog 67 ti67 := TOkAt.mk' (by kernel_rfl) (by kernel_rfl) (fun h => by cases h)
def ti68 : TI := { size := 1, bytes := 8, zero := .nilFunc, d := .other }
theorem tok68 : TOkAt Try.prog 68 ti68 := TOkAt.mk' (by kernel_rfl) (by kernel_rfl) (fun h => by cases h)
def ti69 : TI := { size := 1, bytes := 8, zero := .nilFunc, d := .other }
theorem tok69 : TOkAt Try.prog 69 ti69 := TOkAt.mk' (by kernel_rfl) (by kernel_rfl) (fun h => by cases h)
def ti70 : TI := { size := 1, bytes := 8, zero := .nilFunc, d := .other }
theorem tok70 : TOkAt Try.prog 70 ti70 := TOkAt.mk' (by kernel_rfl) (by kernel_rfl) (fun h => by cases h)
def ti71 : TI := { size := 1, bytes := 8, zero := .nilFunc, d := .other }
theorem tok71 : TOkAt Try.prog 71 ti71 := TOkAt.mk' (by kernel_rfl) (by kernel_rfl) (fun h => by cases h)
def ti72 : TI := { size := 1, bytes := 8, zero := .nilFunc, d := .other }
theorem tok72 : TOkAt Try.prog 72 ti72 := TOkAt.mk' (by kernel_rfl) (by kernel_rfl) (fun h => by cases h)
def ti73 : TI := { size := 1, bytes := 8, zero := .nilFunc, d := .other }
theorem tok73 : TOkAt Try.prog 73 ti73 := TOkAt.mk' (by kernel_rfl) (by kernel_rfl) (fun h => by cases h)
def ti74 : TI := { size := 1, bytes := 24, zero := .slice none 0 0, d := .slice 5 }
theorem tok74 : TOkAt Try.prog 74 ti74 := TOkAt.mk' (by kernel_rfl) (by kernel_rfl) (fun h => by cases h)
def ti75 : TI := { size := 1, bytes := 8, zero := .nilFunc, d := .other }
theorem tok75 : TOkAt Try.prog 75 ti75 := TOkAt.mk' (by kernel_rfl) (by kernel_rfl) (fun h => by cases h)
def ti76 : TI := { size := 1, bytes := 8, zero := .nilFunc, d := .other }
theorem tok76 : TOkAt Try.prog 76 ti76 := TOkAt.mk' (by kernel_rfl) (by kernel_rfl) (fun h => by cases h)
def ti77 : TI := { size := 1, bytes := 8, zero := .nilFunc, d := .other }
theorem tok77 : TOkAt Try.prog 77 ti77 := TOkAt.mk' (by kernel_rfl) (by kernel_rfl) (fun h => by cases h)
def ti78 : TI := { size := 1, bytes := 8, zero := .nilFunc, d := .other }
theorem tok78 : TOkAt Try.prog 78 ti78 := TOkAt.mk' (by kernel_rfl) (by kernel_rfl) (fun h => by cases h)
def ti79 : TI := { size := 1, bytes := 8, zero := .nilFunc, d := .other }
theorem tok79 : TOkAt Try.prog 79 ti79 := TOkAt.mk' (by kernel_rfl) (by kernel_rfl) (fun h => by cases h)
def ti80 : TI := { size := 2, bytes := 16, zero := .agg #[.int .i64 0, .int .u64 0], d := .strct [(0, 3, false), (1, 23, false)], eqOk := true }
theorem tok80 : TOkAt Try.prog 80 ti80 := TOkAt.mk' (by kernel_rfl) (by kernel_rfl) (fun _ => ⟨by kernel_rfl, by kernel_rfl⟩)
def ti81 : TI := { size := 2, bytes := 16, zero := .agg #[.int .i64 0, .int .u64 0], d := .strct [(0, 3, false), (1, 23, false)], eqOk := true }
theorem tok81 : TOkAt Try.prog 81 ti81 := TOkAt.mk' (by kernel_rfl) (by kernel_rfl) (fun _ => ⟨by kernel_rfl, by kernel_rfl⟩)
def ti82 : TI := { size := 1, bytes := 8, zero := .nilFunc, d := .other }
theorem tok82 : TOkAt Try.prog 82 ti82 := TOkAt.mk' (by kernel_rfl) (by kernel_rfl) (fun h => by cases h)
def ti84 : TI := { size := 1, bytes := 8, zero := .nilFunc, d := .other }
theorem tok84 : TOkAt Try.prog 84 ti84 := TOkAt.mk' (by kernel_rfl) (by kernel_rfl) (fun h => by cases h)
def ti85 : TI := { size := 1, bytes := 8, zero := .nilFunc, d := .other }
theorem tok85 : TOkAt Try.prog 85 ti85 := TOkAt.mk' (by kernel_rfl) (by kernel_rfl) (fun h => by cases h)
def ti87 : TI := { size := 1, bytes := 8, zero := .nilFunc, d := .other }
theorem tok87 : TOkAt Try.prog 87 ti87 := TOkAt.mk' (by kernel_rfl) (by kernel_rfl) (fun h => by cases h)
def ti88 : TI := { size := 5, bytes := 56, zero := .agg #[.int .i64 0, .string ⟨#[]⟩, .bool false, .string ⟨#[]⟩, .int .u64 0], d := .strct [(0, 3, false), (1, 9, false), (2, 25, false)], eqOk := true }
theorem tok88 : TOkAt Try.prog 88 ti88 := TOkAt.mk' (by kernel_rfl) (by kernel_rfl) (fun _ => ⟨by kernel_rfl, by kernel_rfl⟩)
def ti89 : TI := { size := 5, bytes := 56, zero := .agg #[.int .i64 0, .string ⟨#[]⟩, .bool false, .string ⟨#[]⟩, .int .u64 0], d := .strct [(0, 3, false), (1, 9, false), (2, 25, false)], eqOk := true }
theorem tok89 : TOkAt Try.prog 89 ti89 := TOkAt.mk' (by kernel_rfl) (by kernel_rfl) (fun _ => ⟨by kernel_rfl, by kernel_rfl⟩)
def ti90 : TI := { size := 1, bytes := 8, zero := .nilFunc, d := .other }
theorem tok90 : TOkAt Try.prog 90 ti90 := TOkAt.mk' (by kernel_rfl) (by kernel_rfl) (fun h => by cases h)
def ti91 : TI := { size := 1, bytes := 8, zero := .nilFunc, d := .other }
theorem tok91 : TOkAt Try.prog 91 ti91 := TOkAt.mk' (by kernel_rfl) (by kernel_rfl) (fun h => by cases h)
def ti92 : TI := { size := 1, bytes := 8, zero := .nilFunc, d := .other }
theorem tok92 : TOkAt Try.prog 92 ti92 := TOkAt.mk' (by kernel_rfl) (by kernel_rfl) (fun h => by cases h)
def ti93 : TI := { size := 0, bytes := 0, zero := .agg #[], d := .strct [], eqOk := true }
theorem tok93 : TOkAt Try.prog 93 ti93 := TOkAt.mk' (by kernel_rfl) (by kernel_rfl) (fun _ => ⟨by kernel_rfl, by kernel_rfl⟩)
def ti94 : TI := { size := 0, bytes := 0, zero := .agg #[], d := .strct [], eqOk := true }
theorem tok94 : TOkAt Try.prog 94 ti94 := TOkAt.mk' (by kernel_rfl) (by kernel_rfl) (fun _ => ⟨by kernel_rfl, by kernel_rfl⟩)
def ti95 : TI := { size := 1, bytes := 8, zero := .nilFunc, d := .other }
theorem tok95 : TOkAt Try.prog 95 ti95 := TOkAt.mk' (by kernel_rfl) (by kernel_rfl) (fun h => by cases h)
def ti96 : TI := { size := 1, bytes := 8, zero := .nilFunc, d := .other }
theorem tok96 : TOkAt Try.prog 96 ti96 := TOkAt.mk' (by kernel_rfl) (by kernel_rfl) (fun h => by cases h)
def ti97 : TI := { size := 1, bytes := 8, zero := .nilFunc, d := .other }
theorem tok97 : TOkAt Try.prog 97 ti97 := TOkAt.mk' (by kernel_rfl) (by kernel_rfl) (fun h => by cases h)
def ti98 : TI := { size := 1, bytes := 8, zero := .float .f64 0, d := .float .f64 }
theorem tok98 : TOkAt Try.prog 98 ti98 := TOkAt.mk' (by kernel_rfl) (by kernel_rfl) (fun h => by cases h)
def ti99 : TI := { size := 1, bytes := 8, zero := .nilFunc, d := .other }
theorem tok99 : TOkAt Try.prog 99 ti99 := TOkAt.mk' (by kernel_rfl) (by kernel_rfl) (fun h => by cases h)
def ti100 : TI := { size := 1, bytes := 8, zero := .pointer none, d := .ptr 102 }
theorem tok100 : TOkAt Try.prog 100 ti100 := TOkAt.mk' (by kernel_rfl) (by kernel_rfl) (fun h => by cases h)
def ti101 : TI := { size := 1, bytes := 16, zero := .agg #[.string ⟨#[]⟩], d := .strct [(0, 9, false)], eqOk := true }
theorem tok101 : TOkAt Try.prog 101 ti101 := TOkAt.mk' (by kernel_rfl) (by kernel_rfl) (fun _ => ⟨by kernel_rfl, by kernel_rfl⟩)
def ti102 : TI := { size := 1, bytes := 16, zero := .agg #[.string ⟨#[]⟩], d := .strct [(0, 9, false)], eqOk := true }
theorem tok102 : TOkAt Try.prog 102 ti102 := TOkAt.mk' (by kernel_rfl) (by kernel_rfl) (fun _ => ⟨by kernel_rfl, by kernel_rfl⟩)
def ti103 : TI := { size := 1, bytes := 8, zero := .nilFunc, d := .other }
theorem tok103 : TOkAt Try.prog 103 ti103 := TOkAt.mk' (by kernel_rfl) (by kernel_rfl) (fun h => by cases h)
def ti104 : TI := { size := 1, bytes := 8, zero := .nilFunc, d := .other }
theorem tok104 : TOkAt Try.prog 104 ti104 := TOkAt.mk' (by kernel_rfl) (by kernel_rfl) (fun h => by cases h)
def ti105 : TI := { size := 1, bytes := 8, zero := .nilFunc, d := .other }
theorem tok105 : TOkAt Try.prog 105 ti105 := TOkAt.mk' (by kernel_rfl) (by kernel_rfl) (fun h => by cases h)
def ti106 : TI := { size := 1, bytes := 8, zero := .pointer none, d := .ptr 30 }
theorem tok106 : TOkAt Try.prog 106 ti106 := TOkAt.mk' (by kernel_rfl) (by kernel_rfl) (fun h => by cases h)
def ti107 : TI := { size := 1, bytes := 8, zero := .nilFunc, d := .other }
theorem tok107 : TOkAt Try.prog 107 ti107 := TOkAt.mk' (by kernel_rfl) (by kernel_rfl) (fun h => by cases h)
def ti108 : TI := { size := 1, bytes := 8, zero := .nilFunc, d := .other }
theorem tok108 : TOkAt Try.prog 108 ti108 := TOkAt.mk' (by kernel_rfl) (by kernel_rfl) (fun h => by cases h)
def ti110 : TI := { size := 1, bytes := 8, zero := .nilFunc, d := .other }
theorem tok110 : TOkAt Try.prog 110 ti110 := TOkAt.mk' (by kernel_rfl) (by kernel_rfl) (fun h => by cases h)
def ti112 : TI := { size := 1, bytes := 8, zero := .nilFunc, d := .other }
theorem tok112 : TOkAt Try.prog 112 ti112 := TOkAt.mk' (by kernel_rfl) (by kernel_rfl) (fun h => by cases h)
def ti113 : TI := { size := 1, bytes := 24, zero := .slice none 0 0, d := .slice 9 }
theorem tok113 : TOkAt Try.prog 113 ti113 := TOkAt.mk' (by kernel_rfl) (by kernel_rfl) (fun h => by cases h)
def ti115 : TI := { size := 1, bytes := 8, zero := .nilFunc, d := .other }
theorem tok115 : TOkAt Try.prog 115 ti115 := TOkAt.mk' (by kernel_rfl) (by kernel_rfl) (fun h => by cases h)
def ti116 : TI := { size := 1, bytes := 8, zero := .nilFunc, d := .other }
theorem tok116 : TOkAt Try.prog 116 ti116 := TOkAt.mk' (by kernel_rfl) (by kernel_rfl) (fun h => by cases h)
def ti117 : TI := { size := 1, bytes := 8, zero := .nilFunc, d := .other }
theorem tok117 : TOkAt Try.prog 117 ti117 := TOkAt.mk' (by kernel_rfl) (by kernel_rfl) (fun h => by cases h)
def ti118 : TI := { size := 1, bytes := 8, zero := .nilFunc, d := .other }
theorem tok118 : TOkAt Try.prog 118 ti118 := TOkAt.mk' (by kernel_rfl) (by kernel_rfl) (fun h => by cases h)
def ti119 : TI := { size := 1, bytes := 8, zero := .nilFunc, d := .other }
theorem tok119 : TOkAt Try.prog 119 ti119 := TOkAt.mk' (by kernel_rfl) (by kernel_rfl) (fun h => by cases h)
def ti120 : TI := { size := 1, bytes := 8, zero := .nilFunc, d := .other }
theorem tok120 : TOkAt Try.prog 120 ti120 := TOkAt.mk' (by kernel_rfl) (by kernel_rfl) (fun h => by cases h)
def ti121 : TI := { size := 1, bytes := 8, zero := .nilFunc, d := .other }
theorem tok121 : TOkAt Try.prog 121 ti121 := TOkAt.mk' (by kernel_rfl) (by kernel_rfl) (fun h => by cases h)
def ti122 : TI := { size := 1, bytes := 8, zero := .nilFunc, d := .other }
theorem tok122 : TOkAt Try.prog 122 ti122 := TOkAt.mk' (by kernel_rfl) (by kernel_rfl) (fun h => by cases h)
def ti123 : TI := { size := 1, bytes := 24, zero := .slice none 0 0, d := .slice 4 }
theorem tok123 : TOkAt Try.prog 123 ti123 := TOkAt.mk' (by kernel_rfl) (by kernel_rfl) (fun h => by cases h)
def ti125 : TI := { size := 1, bytes := 8, zero := .nilFunc, d := .other }
theorem tok125 : TOkAt Try.prog 125 ti125 := TOkAt.mk' (by kernel_rfl) (by kernel_rfl) (fun h => by cases h)
def ti126 : TI := { size := 1, bytes := 8, zero := .nilFunc, d := .other }
theorem tok126 : TOkAt Try.prog 126 ti126 := TOkAt.mk' (by kernel_rfl) (by kernel_rfl) (fun h => by cases h)
def ti127 : TI := { size := 1, bytes := 8, zero := .pointer none, d := .ptr 129 }
theorem tok127 : TOkAt Try.prog 127 ti127 := TOkAt.mk' (by kernel_rfl) (by kernel_rfl) (fun h => by cases h)
def ti128 : TI := { size := 1, bytes := 24, zero := .agg #[.slice none 0 0], d := .strct [(0, 74, false)] }
theorem tok128 : TOkAt Try.prog 128 ti128 := TOkAt.mk' (by kernel_rfl) (by kernel_rfl) (fun h => by cases h)
def ti129 : TI := { size := 1, bytes := 24, zero := .agg #[.slice none 0 0], d := .strct [(0, 74, false)] }
theorem tok129 : TOkAt Try.prog 129 ti129 := TOkAt.mk' (by kernel_rfl) (by kernel_rfl) (fun h => by cases h)
def ti130 : TI := { size := 1, bytes := 8, zero := .nilFunc, d := .other }
theorem tok130 : TOkAt Try.prog 130 ti130 := TOkAt.mk' (by kernel_rfl) (by kernel_rfl) (fun h => by cases h)
def ti131 : TI := { size := 1, bytes := 8, zero := .nilFunc, d := .other }
theorem tok131 : TOkAt Try.prog 131 ti131 := TOkAt.mk' (by kernel_rfl) (by kernel_rfl) (fun h => by cases h)
def ti132 : TI := { size := 1, bytes := 8, zero := .nilFunc, d := .other }
theorem tok132 : TOkAt Try.prog 132 ti132 := TOkAt.mk' (by kernel_rfl) (by kernel_rfl) (fun h => by cases h)
def ti133 : TI := { size := 1, bytes := 8, zero := .nilFunc, d := .other }
theorem tok133 : TOkAt Try.prog 133 ti133 := TOkAt.mk' (by kernel_rfl) (by kernel_rfl) (fun h => by cases h)
def ti135 : TI := { size := 1, bytes := 8, zero := .nilFunc, d := .other }
theorem tok135 : TOkAt Try.prog 135 ti135 := TOkAt.mk' (by kernel_rfl) (by kernel_rfl) (fun h => by cases h)
def ti136 : TI := { size := 1, bytes := 8, zero := .nilFunc, d := .other }
theorem tok136 : TOkAt Try.prog 136 ti136 := TOkAt.mk' (by kernel_rfl) (by kernel_rfl) (fun h => by cases h)
def ti137 : TI := { size := 1, bytes := 8, zero := .nilFunc, d := .other }
theorem tok137 : TOkAt Try.prog 137 ti137 := TOkAt.mk' (by kernel_rfl) (by kernel_rfl) (fun h => by cases h)
def ti138 : TI := { size := 1, bytes := 8, zero := .nilFunc, d := .other }
theorem tok138 : TOkAt Try.prog 138 ti138 := TOkAt.mk' (by kernel_rfl) (by kernel_rfl) (fun h => by cases h)
def ti139 : TI := { size := 1, bytes := 8, zero := .int .i64 0, d := .int .i64 }
theorem tok139 : TOkAt Try.prog 139 ti139 := TOkAt.mk' (by kernel_rfl) (by kernel_rfl) (fun h => by cases h)
def ti140 : TI := { size := 1, bytes := 8, zero := .nilFunc, d := .other }
theorem tok140 : TOkAt Try.prog 140 ti140 := TOkAt.mk' (by kernel_rfl) (by kernel_rfl) (fun h => by cases h)
def ti141 : TI := { size := 1, bytes := 8, zero := .nilFunc, d := .other }
theorem tok141 : TOkAt Try.prog 141 ti141 := TOkAt.mk' (by kernel_rfl) (by kernel_rfl) (fun h => by cases h)
def ti142 : TI := { size := 1, bytes := 8, zero := .nilFunc, d := .other }
theorem tok142 : TOkAt Try.prog 142 ti142 := TOkAt.mk' (by kernel_rfl) (by kernel_rfl) (fun h => by cases h)
def ti144 : TI := { size := 1, bytes := 8, zero := .nilFunc, d := .other }
theorem tok144 : TOkAt Try.prog 144 ti144 := TOkAt.mk' (by kernel_rfl) (by kernel_rfl) (fun h => by cases h)
def ti145 : TI := { size := 1, bytes := 8, zero := .pointer none, d := .ptr 147 }
theorem tok145 : TOkAt Try.prog 145 ti145 := TOkAt.mk' (by kernel_rfl) (by kernel_rfl) (fun h => by cases h)
def ti146 : TI := { size := 1, bytes := 16, zero := .agg #[.string ⟨#[]⟩], d := .strct [(0, 9, false)], eqOk := true }
theorem tok146 : TOkAt Try.prog 146 ti146 := TOkAt.mk' (by kernel_rfl) (by kernel_rfl) (fun _ => ⟨by kernel_rfl, by kernel_rfl⟩)
def ti147 : TI := { size := 1, bytes := 16, zero := .agg #[.string ⟨#[]⟩], d := .strct [(0, 9, false)], eqOk := true }
theorem tok147 : TOkAt Try.prog 147 ti147 := TOkAt.mk' (by kernel_rfl) (by kernel_rfl) (fun _ => ⟨by kernel_rfl, by kernel_rfl⟩)
def ti148 : TI := { size := 1, bytes := 8, zero := .nilFunc, d := .other }
theorem tok148 : TOkAt Try.prog 148 ti148 := TOkAt.mk' (by kernel_rfl) (by kernel_rfl) (fun h => by cases h)
def ti149 : TI := { size := 8, bytes := 8, zero := .agg #[.int .u8 0, .int .u8 0, .int .u8 0, .int .u8 0, .int .u8 0, .int .u8 0, .int .u8 0, .int .u8 0], d := .arr 8 5 }
theorem tok149 : TOkAt Try.prog 149 ti149 := TOkAt.mk' (by kernel_rfl) (by kernel_rfl) (fun h => by cases h)
def ti151 : TI := { size := 1, bytes := 8, zero := .nilFunc, d := .other }
theorem tok151 : TOkAt Try.prog 151 ti151 := TOkAt.mk' (by kernel_rfl) (by kernel_rfl) (fun h => by cases h)
def ti153 : TI := { size := 1, bytes := 8, zero := .nilFunc, d := .other }
theorem tok153 : TOkAt Try.prog 153 ti153 := TOkAt.mk' (by kernel_rfl) (by kernel_rfl) (fun h => by cases h)
def ti154 : TI := { size := 1, bytes := 8, zero := .nilFunc, d := .other }
theorem tok154 : TOkAt Try.prog 154 ti154 := TOkAt.mk' (by kernel_rfl) (by kernel_rfl) (fun h => by cases h)
def ti155 : TI := { size := 1, bytes := 8, zero := .nilFunc, d := .other }
theorem tok155 : TOkAt Try.prog 155 ti155 := TOkAt.mk' (by kernel_rfl) (by kernel_rfl) (fun h => by cases h)
def ti156 : TI := { size := 1, bytes := 8, zero := .nilFunc, d := .other }
theorem tok156 : TOkAt Try.prog 156 ti156 := TOkAt.mk' (by kernel_rfl) (by kernel_rfl) (fun h => by cases h)
def ti157 : TI := { size := 1, bytes := 8, zero := .nilFunc, d := .other }
theorem tok157 : TOkAt Try.prog 157 ti157 := TOkAt.mk' (by kernel_rfl) (by kernel_rfl) (fun h => by cases h)
def ti158 : TI := { size := 1, bytes := 8, zero := .nilFunc, d := .other }
theorem tok158 : TOkAt Try.prog 158 ti158 := TOkAt.mk' (by kernel_rfl) (by kernel_rfl) (fun h => by cases h)
def ti159 : TI := { size := 1, bytes := 8, zero := .nilFunc, d := .other }
theorem tok159 : TOkAt Try.prog 159 ti159 := TOkAt.mk' (by kernel_rfl) (by kernel_rfl) (fun h => by cases h)
def ti160 : TI := { size := 1, bytes := 8, zero := .nilFunc, d := .other }
theorem tok160 : TOkAt Try.prog 160 ti160 := TOkAt.mk' (by kernel_rfl) (by kernel_rfl) (fun h => by cases h)
def ti161 : TI := { size := 4, bytes := 40, zero := .agg #[.pointer none, .pointer none, .pointer none, .string ⟨#[]⟩], d := .strct [(0, 17, false), (1, 17, false), (2, 17, false), (3, 9, false)] }
theorem tok161 : TOkAt Try.prog 161 ti161 := TOkAt.mk' (by kernel_rfl) (by kernel_rfl) (fun h => by cases h)
def ti162 : TI := { size := 4, bytes := 40, zero := .agg #[.pointer none, .pointer none, .pointer none, .string ⟨#[]⟩], d := .strct [(0, 17, false), (1, 17, false), (2, 17, false), (3, 9, false)] }
theorem tok162 : TOkAt Try.prog 162 ti162 := TOkAt.mk' (by kernel_rfl) (by kernel_rfl) (fun h => by cases h)
def ti163 : TI := { size := 0, bytes := 0, zero := .agg #[], d := .arr 0 16 }
theorem tok163 : TOkAt Try.prog 163 ti163 := TOkAt.mk' (by kernel_rfl) (by kernel_rfl) (fun h => by cases h)
def ti164 : TI := { size := 0, bytes := 0, zero := .agg #[], d := .strct [(0, 163, true)] }
theorem tok164 : TOkAt Try.prog 164 ti164 := TOkAt.mk' (by kernel_rfl) (by kernel_rfl) (fun h => by cases h)
def ti165 : TI := { size := 0, bytes := 0, zero := .agg #[], d := .strct [(0, 163, true)] }
theorem tok165 : TOkAt Try.prog 165 ti165 := TOkAt.mk' (by kernel_rfl) (by kernel_rfl) (fun h => by cases h)
def ti166 : TI := { size := 1, bytes := 8, zero := .nilFunc, d := .other }
theorem tok166 : TOkAt Try.prog 166 ti166 := TOkAt.mk' (by kernel_rfl) (by kernel_rfl) (fun h => by cases h)
def ti167 : TI := { size := 1, bytes := 4, zero := .int .u32 0, d := .int .u32 }
theorem tok167 : TOkAt Try.prog 167 ti167 := TOkAt.mk' (by kernel_rfl) (by kernel_rfl) (fun h => by cases h)
def ti168 : TI := { size := 1, bytes := 1, zero := .int .u8 0, d := .int .u8 }
theorem tok168 : TOkAt Try.prog 168 ti168 := TOkAt.mk' (by kernel_rfl) (by kernel_rfl) (fun h => by cases h)
def ti169 : TI := { size := 1, bytes := 1, zero := .int .u8 0, d := .int .u8 }
theorem tok169 : TOkAt Try.prog 169 ti169 := TOkAt.mk' (by kernel_rfl) (by kernel_rfl) (fun h => by cases h)
def ti170 : TI := { size := 1, bytes := 8, zero := .nilFunc, d := .other }
theorem tok170 : TOkAt Try.prog 170 ti170 := TOkAt.mk' (by kernel_rfl) (by kernel_rfl) (fun h => by cases h)
def ti171 : TI := { size := 1, bytes := 8, zero := .pointer none, d := .ptr 5 }
theorem tok171 : TOkAt Try.prog 171 ti171 := TOkAt.mk' (by kernel_rfl) (by kernel_rfl) (fun h => by cases h)
def ti172 : TI := { size := 1, bytes := 4, zero := .int .i32 0, d := .int .i32 }
theorem tok172 : TOkAt Try.prog 172 ti172 := TOkAt.mk' (by kernel_rfl) (by kernel_rfl) (fun h => by cases h)
def ti173 : TI := { size := 1, bytes := 4, zero := .int .i32 0, d := .int .i32 }
theorem tok173 : TOkAt Try.prog 173 ti173 := TOkAt.mk' (by kernel_rfl) (by kernel_rfl) (fun h => by cases h)
def ti174 : TI := { size := 11, bytes := 48, zero := .agg #[.int .u64 0, .int .u64 0, .int .u32 0, .int .u8 0, .int .u8 0, .int .u8 0, .int .u8 0, .nilFunc, .pointer none, .int .i32 0, .int .i32 0], d := .strct [(0, 12, false), (1, 12, false), (2, 167, false), (3, 168, false), (4, 5, false), (5, 5, false), (6, 169, false), (7, 170, false), (8, 171, false), (9, 172, false), (10, 173, false)] }
theorem tok174 : TOkAt Try.prog 174 ti174 := TOkAt.mk' (by kernel_rfl) (by kernel_rfl) (fun h => by cases h)
def ti175 : TI := { size := 11, bytes := 48, zero := .agg #[.int .u64 0, .int .u64 0, .int .u32 0, .int .u8 0, .int .u8 0, .int .u8 0, .int .u8 0, .nilFunc, .pointer none, .int .i32 0, .int .i32 0], d := .strct [(0, 12, false), (1, 12, false), (2, 167, false), (3, 168, false), (4, 5, false), (5, 5, false), (6, 169, false), (7, 170, false), (8, 171, false), (9, 172, false), (10, 173, false)] }
theorem tok175 : TOkAt Try.prog 175 ti175 := TOkAt.mk' (by kernel_rfl) (by kernel_rfl) (fun h => by cases h)
def T : Tab := fun t => bif Nat.blt t 87 then (bif Nat.blt t 44 then (bif Nat.blt t 21 then (bif Nat.blt t 11 then (bif Nat.blt t 6 then (bif Nat.blt t 3 then (bif Nat.blt t 2 then (bif Nat.beq t 1 then some ti1 else none) else (bif Nat.beq t 2 then some ti2 else none)) else (bif Nat.blt t 4 then (bif Nat.beq t 3 then some ti3 else none) else (bif Nat.blt t 5 then (bif Nat.beq t 4 then some ti4 else none) else (bif Nat.beq t 5 then some ti5 else none)))) else (bif Nat.blt t 8 then (bif Nat.blt t 7 then (bif Nat.beq t 6 then some ti6 else none) else (bif Nat.beq t 7 then some ti7 else none)) else (bif Nat.blt t 9 then (bif Nat.beq t 8 then some ti8 else none) else (bif Nat.blt t 10 then (bif Nat.beq t 9 then some ti9 else none) else (bif Nat.beq t 10 then some ti10 else none))))) else (bif Nat.blt t 16 then (bif Nat.blt t 13 then (bif Nat.blt t 12 then (bif Nat.beq t 11 then some ti11 else none) else (bif Nat.beq t 12 then some ti12 else none)) else (bif Nat.blt t 14 then (bif Nat.beq t 13 then some ti13 else none) else (bif Nat.blt t 15 then (bif Nat.beq t 14 then some ti14 else none) else (bif Nat.beq t 15 then some ti15 else none)))) else (bif Nat.blt t 18 then (bif Nat.blt t 17 then (bif Nat.beq t 16 then some ti16 else none) else (bif Nat.beq t 17 then some ti17 else none)) else (bif Nat.blt t 19 then (bif Nat.beq t 18 then some ti18 else none) else (bif Nat.blt t 20 then (bif Nat.beq t 19 then some ti19 else none) else (bif Nat.beq t 20 then some ti20 else none)))))) else (bif Nat.blt t 31 then (bif Nat.blt t 26 then (bif Nat.blt t 23 then (bif Nat.blt t 22 then (bif Nat.beq t 21 then some ti21 else none) else (bif Nat.beq t 22 then some ti22 else none)) else (bif Nat.blt t 24 then (bif Nat.beq t 23 then some ti23 else none) else (bif Nat.blt t 25 then (bif Nat.beq t 24 then some ti24 else none) else (bif Nat.beq t 25 then some ti25 else none)))) else (bif Nat.blt t 28 then (bif Nat.blt t 27 then (bif Nat.beq t 26 then some ti26 else none) else (bif Nat.beq t 27 then some ti27 else none)) else (bif Nat.blt t 29 then (bif Nat.beq t 28 then some ti28 else none) else (bif Nat.blt t 30 then (bif Nat.beq t 29 then some ti29 else none) else (bif Nat.beq t 30 then some ti30 else none))))) else (bif Nat.blt t 38 then (bif Nat.blt t 33 then (bif Nat.blt t 32 then (bif Nat.beq t 31 then some ti31 else none) else (bif Nat.beq t 32 then some ti32 else none)) else (bif Nat.blt t 35 then (bif Nat.beq t 33 then some ti33 else none) else (bif Nat.blt t 37 then (bif Nat.beq t 35 then some ti35 else none) else (bif Nat.beq t 37 then some ti37 else none)))) else (bif Nat.blt t 41 then (bif Nat.blt t 39 then (bif Nat.beq t 38 then some ti38 else none) else (bif Nat.beq t 39 then some ti39 else none)) else (bif Nat.blt t 42 then (bif Nat.beq t 41 then some ti41 else none) else (bif Nat.blt t 43 then (bif Nat.beq t 42 then some ti42 else none) else (bif Nat.beq t 43 then some ti43 else none))))))) else (bif Nat.blt t 65 then (bif Nat.blt t 55 then (bif Nat.blt t 49 then (bif Nat.blt t 46 then (bif Nat.blt t 45 then (bif Nat.beq t 44 then some ti44 else none) else (bif Nat.beq t 45 then some ti45 else none)) else (bif Nat.blt t 47 then (bif Nat.beq t 46 then some ti46 else none) else (bif Nat.blt t 48 then (bif Nat.beq t 47 then some ti47 else none) else (bif Nat.beq t 48 then some ti48 else none)))) else (bif Nat.blt t 52 then (bif Nat.blt t 50 then (bif Nat.beq t 49 then some ti49 else none) else (bif Nat.beq t 50 then some ti50 else none)) else (bif Nat.blt t 53 then (bif Nat.beq t 52 then some ti52 else none) else (bif Nat.blt t 54 then (bif Nat.beq t 53 then some ti53 else none) else (bif Nat.beq t 54 then some ti54 else none))))) else (bif Nat.blt t 60 then (bif Nat.blt t 57 then (bif Nat.blt t 56 then (bif Nat.beq t 55 then some ti55 else none) else (bif Nat.beq t 56 then some ti56 else none)) else (bif Nat.blt t 58 then (bif Nat.beq t 57 then some ti57 else none) else (bif Nat.blt t 59 then (bif Nat.beq t 58 then some ti58 else none) else (bif Nat.beq t 59 then some ti59 else none)))) else (bif Nat.blt t 62 then (bif Nat.blt t 61 then (bif Nat.beq t 60 then some ti60 else none) else (bif Nat.beq t 61 then some ti61 else none)) else (bif Nat.blt t 63 then (bif Nat.beq t 62 then some ti62 else none) else (bif Nat.blt t 64 then (bif Nat.beq t 63 then some ti63 else none) else (bif Nat.beq t 64 then some ti64 else none)))))) else (bif Nat.blt t 75 then (bif Nat.blt t 70 then (bif Nat.blt t 67 then (bif Nat.blt t 66 then (bif Nat.beq t 65 then some ti65 else none) else (bif Nat.beq t 66 then some ti66 else none)) else (bif Nat.blt t 68 then (bif Nat.beq t 67 then some ti67 else none) else (bif Nat.blt t 69 then (bif Nat.beq t 68 then some ti68 else none) else (bif Nat.beq t 69 then some ti69 else none)))) else (bif Nat.blt t 72 then (bif Nat.blt t 71 then (bif Nat.beq t 70 then some ti70 else none) else (bif Nat.beq t 71 then some ti71 else none)) else (bif Nat.blt t 73 then (bif Nat.beq t 72 then some ti72 else none) else (bif Nat.blt t 74 then (bif Nat.beq t 73 then some ti73 else none) else (bif Nat.beq t 74 then some ti74 else none))))) else (bif Nat.blt t 80 then (bif Nat.blt t 77 then (bif Nat.blt t 76 then (bif Nat.beq t 75 then some ti75 else none) else (bif Nat.beq t 76 then some ti76 else none)) else (bif Nat.blt t 78 then (bif Nat.beq t 77 then some ti77 else none) else (bif Nat.blt t 79 then (bif Nat.beq t 78 then some ti78 else none) else (bif Nat.beq t 79 then some ti79 else none)))) else (bif Nat.blt t 82 then (bif Nat.blt t 81 then (bif Nat.beq t 80 then some ti80 else none) else (bif Nat.beq t 81 then some ti81 else none)) else (bif Nat.blt t 84 then (bif Nat.beq t 82 then some ti82 else none) else (bif Nat.blt t 85 then (bif Nat.beq t 84 then some ti84 else none) else (bif Nat.beq t 85 then some ti85 else none)))))))) else (bif Nat.blt t 131 then (bif Nat.blt t 107 then (bif Nat.blt t 97 then (bif Nat.blt t 92 then (bif Nat.blt t 89 then (bif Nat.blt t 88 then (bif Nat.beq t 87 then some ti87 else none) else (bif Nat.beq t 88 then some ti88 else none)) else (bif Nat.blt t 90 then (bif Nat.beq t 89 then some ti89 else none) else (bif Nat.blt t 91 then (bif Nat.beq t 90 then some ti90 else none) else (bif Nat.beq t 91 then some ti91 else none)))) else (bif Nat.blt t 94 then (bif Nat.blt t 93 then (bif Nat.beq t 92 then some ti92 else none) else (bif Nat.beq t 93 then some ti93 else none)) else (bif Nat.blt t 95 then (bif Nat.beq t 94 then some ti94 else none) else (bif Nat.blt t 96 then (bif Nat.beq t 95 then some ti95 else none) else (bif Nat.beq t 96 then some ti96 else none))))) else (bif Nat.blt t 102 then (bif Nat.blt t 99 then (bif Nat.blt t 98 then (bif Nat.beq t 97 then some ti97 else none) else (bif Nat.beq t 98 then some ti98 else none)) else (bif Nat.blt t 100 then (bif Nat.beq t 99 then some ti99 else none) else (bif Nat.blt t 101 then (bif Nat.beq t 100 then some ti100 else none) else (bif Nat.beq t 101 then some ti101 else none)))) else (bif Nat.blt t 104 then (bif Nat.blt t 103 then (bif Nat.beq t 102 then some ti102 else none) else (bif Nat.beq t 103 then some ti103 else none)) else (bif Nat.blt t 105 then (bif Nat.beq t 104 then some ti104 else none) else (bif Nat.blt t 106 then (bif Nat.beq t 105 then some ti105 else none) else (bif Nat.beq t 106 then some ti106 else none)))))) else (bif Nat.blt t 120 then (bif Nat.blt t 115 then (bif Nat.blt t 110 then (bif Nat.blt t 108 then (bif Nat.beq t 107 then some ti107 else none) else (bif Nat.beq t 108 then some ti108 else none)) else (bif Nat.blt t 112 then (bif Nat.beq t 110 then some ti110 else none) else (bif Nat.blt t 113 then (bif Nat.beq t 112 then some ti112 else none) else (bif Nat.beq t 113 then some ti113 else none)))) else (bif Nat.blt t 117 then (bif Nat.blt t 116 then (bif Nat.beq t 115 then some ti115 else none) else (bif Nat.beq t 116 then some ti116 else none)) else (bif Nat.blt t 118 then (bif Nat.beq t 117 then some ti117 else none) else (bif Nat.blt t 119 then (bif Nat.beq t 118 then some ti118 else none) else (bif Nat.beq t 119 then some ti119 else none))))) else (bif Nat.blt t 126 then (bif Nat.blt t 122 then (bif Nat.blt t 121 then (bif Nat.beq t 120 then some ti120 else none) else (bif Nat.beq t 121 then some ti121 else none)) else (bif Nat.blt t 123 then (bif Nat.beq t 122 then some ti122 else none) else (bif Nat.blt t 125 then (bif Nat.beq t 123 then some ti123 else none) else (bif Nat.beq t 125 then some ti125 else none)))) else (bif Nat.blt t 128 then (bif Nat.blt t 127 then (bif Nat.beq t 126 then some ti126 else none) else (bif Nat.beq t 127 then some ti127 else none)) else (bif Nat.blt t 129 then (bif Nat.beq t 128 then some ti128 else none) else (bif Nat.blt t 130 then (bif Nat.beq t 129 then some ti129 else none) else (bif Nat.beq t 130 then some ti130 else none))))))) else (bif Nat.blt t 155 then (bif Nat.blt t 142 then (bif Nat.blt t 137 then (bif Nat.blt t 133 then (bif Nat.blt t 132 then (bif Nat.beq t 131 then some ti131 else none) else (bif Nat.beq t 132 then some ti132 else none)) else (bif Nat.blt t 135 then (bif Nat.beq t 133 then some ti133 else none) else (bif Nat.blt t 136 then (bif Nat.beq t 135 then some ti135 else none) else (bif Nat.beq t 136 then some ti136 else none)))) else (bif Nat.blt t 139 then (bif Nat.blt t 138 then (bif Nat.beq t 137 then some ti137 else none) else (bif Nat.beq t 138 then some ti138 else none)) else (bif Nat.blt t 140 then (bif Nat.beq t 139 then some ti139 else none) else (bif Nat.blt t 141 then (bif Nat.beq t 140 then some ti140 else none) else (bif Nat.beq t 141 then some ti141 else none))))) else (bif Nat.blt t 148 then (bif Nat.blt t 145 then (bif Nat.blt t 144 then (bif Nat.beq t 142 then some ti142 else none) else (bif Nat.beq t 144 then some ti144 else none)) else (bif Nat.blt t 146 then (bif Nat.beq t 145 then some ti145 else none) else (bif Nat.blt t 147 then (bif Nat.beq t 146 then some ti146 else none) else (bif Nat.beq t 147 then some ti147 else none)))) else (bif Nat.blt t 151 then (bif Nat.blt t 149 then (bif Nat.beq t 148 then some ti148 else none) else (bif Nat.beq t 149 then some ti149 else none)) else (bif Nat.blt t 153 then (bif Nat.beq t 151 then some ti151 else none) else (bif Nat.blt t 154 then (bif Nat.beq t 153 then some ti153 else none) else (bif Nat.beq t 154 then some ti154 else none)))))) else (bif Nat.blt t 165 then (bif Nat.blt t 160 then (bif Nat.blt t 157 then (bif Nat.blt t 156 then (bif Nat.beq t 155 then some ti155 else none) else (bif Nat.beq t 156 then some ti156 else none)) else (bif Nat.blt t 158 then (bif Nat.beq t 157 then some ti157 else none) else (bif Nat.blt t 159 then (bif Nat.beq t 158 then some ti158 else none) else (bif Nat.beq t 159 then some ti159 else none)))) else (bif Nat.blt t 162 then (bif Nat.blt t 161 then (bif Nat.beq t 160 then some ti160 else none) else (bif Nat.beq t 161 then some ti161 else none)) else (bif Nat.blt t 163 then (bif Nat.beq t 162 then some ti162 else none) else (bif Nat.blt t 164 then (bif Nat.beq t 163 then some ti163 else none) else (bif Nat.beq t 164 then some ti164 else none))))) else (bif Nat.blt t 170 then (bif Nat.blt t 167 then (bif Nat.blt t 166 then (bif Nat.beq t 165 then some ti165 else none) else (bif Nat.beq t 166 then some ti166 else none)) else (bif Nat.blt t 168 then (bif Nat.beq t 167 then some ti167 else none) else (bif Nat.blt t 169 then (bif Nat.beq t 168 then some ti168 else none) else (bif Nat.beq t 169 then some ti169 else none)))) else (bif Nat.blt t 173 then (bif Nat.blt t 171 then (bif Nat.beq t 170 then some ti170 else none) else (bif Nat.blt t 172 then (bif Nat.beq t 171 then some ti171 else none) else (bif Nat.beq t 172 then some ti172 else none))) else (bif Nat.blt t 174 then (bif Nat.beq t 173 then some ti173 else none) else (bif Nat.blt t 175 then (bif Nat.beq t 174 then some ti174 else none) else (bif Nat.beq t 175 then some ti175 else none))))))))
theorem hT : TOk Try.prog T := by
 intro t i h
 unfold T at h
 cases h1 : Nat.blt t 87 with
 | true =>
  rw [h1, cond_true] at h
  cases h2 : Nat.blt t 44 with
  | true =>
   rw [h2, cond_true] at h
   cases h3 : Nat.blt t 21 with
   | true =>
    rw [h3, cond_true] at h
    cases h4 : Nat.blt t 11 with
    | true =>
     rw [h4, cond_true] at h
     cases h5 : Nat.blt t 6 with
     | true =>
      rw [h5, cond_true] at h
      cases h6 : Nat.blt t 3 with
      | true =>
       rw [h6, cond_true] at h
       cases h7 : Nat.blt t 2 with
       | true =>
        rw [h7, cond_true] at h
        cases h8 : Nat.beq t 1 with
        | true =>
         rw [h8, cond_true] at h
         have := Nat.eq_of_beq_eq_true h8
         subst this
         obtain rfl := Option.some.inj h
         exact tok1
        | false => rw [h8, cond_false] at h; cases h
       | false =>
        rw [h7, cond_false] at h
        cases h8 : Nat.beq t 2 with
        | true =>
         rw [h8, cond_true] at h
         have := Nat.eq_of_beq_eq_true h8
         subst this
         obtain rfl := Option.some.inj h
         exact tok2
        | false => rw [h8, cond_false] at h; cases h
      | false =>
       rw [h6, cond_false] at h
       cases h7 : Nat.blt t 4 with
       | true =>
        rw [h7, cond_true] at h
        cases h8 : Nat.beq t 3 with
        | true =>
         rw [h8, cond_true] at h
         have := Nat.eq_of_beq_eq_true h8
         subst this
         obtain rfl := Option.some.inj h
         exact tok3
        | false => rw [h8, cond_false] at h; cases h
       | false =>
        rw [h7, cond_false] at h
        cases h8 : Nat.blt t 5 with
        | true =>
         rw [h8, cond_true] at h
         cases h9 : Nat.beq t 4 with
         | true =>
          rw [h9, cond_true] at h
          have := Nat.eq_of_beq_eq_true h9
          subst this
          obtain rfl := Option.some.inj h
          exact tok4
         | false => rw [h9, cond_false] at h; cases h
        | false =>
         rw [h8, cond_false] at h
         cases h9 : Nat.beq t 5 with
         | true =>
          rw [h9, cond_true] at h
          have := Nat.eq_of_beq_eq_true h9
          subst this
          obtain rfl := Option.some.inj h
          exact tok5
         | false => rw [h9, cond_false] at h; cases h
     | false =>
      rw [h5, cond_false] at h
      cases h6 : Nat.blt t 8 with
      | true =>
       rw [h6, cond_true] at h
       cases h7 : Nat.blt t 7 with
       | true =>
        rw [h7, cond_true] at h
        cases h8 : Nat.beq t 6 with
        | true =>
         rw [h8, cond_true] at h
         have := Nat.eq_of_beq_eq_true h8
         subst this
         obtain rfl := Option.some.inj h
         exact tok6
        | false => rw [h8, cond_false] at h; cases h
       | false =>
        rw [h7, cond_false] at h
        cases h8 : Nat.beq t 7 with
        | true =>
         rw [h8, cond_true] at h
         have := Nat.eq_of_beq_eq_true h8
         subst this
         obtain rfl := Option.some.inj h
         exact tok7
        | false => rw [h8, cond_false] at h; cases h
      | false =>
       rw [h6, cond_false] at h
       cases h7 : Nat.blt t 9 with
       | true =>
        rw [h7, cond_true] at h
        cases h8 : Nat.beq t 8 with
        | true =>
         rw [h8, cond_true] at h
         have := Nat.eq_of_beq_eq_true h8
         subst this
         obtain rfl := Option.some.inj h
         exact tok8
        | false => rw [h8, cond_false] at h; cases h
       | false =>
        rw [h7, cond_false] at h
        cases h8 : Nat.blt t 10 with
        | true =>
         rw [h8, cond_true] at h
         cases h9 : Nat.beq t 9 with
         | true =>
          rw [h9, cond_true] at h
          have := Nat.eq_of_beq_eq_true h9
          subst this
          obtain rfl := Option.some.inj h
          exact tok9
         | false => rw [h9, cond_false] at h; cases h
        | false =>
         rw [h8, cond_false] at h
         cases h9 : Nat.beq t 10 with
         | true =>
          rw [h9, cond_true] at h
          have := Nat.eq_of_beq_eq_true h9
          subst this
          obtain rfl := Option.some.inj h
          exact tok10
         | false => rw [h9, cond_false] at h; cases h
    | false =>
     rw [h4, cond_false] at h
     cases h5 : Nat.blt t 16 with
     | true =>
      rw [h5, cond_true] at h
      cases h6 : Nat.blt t 13 with
      | true =>
       rw [h6, cond_true] at h
       cases h7 : Nat.blt t 12 with
       | true =>
        rw [h7, cond_true] at h
        cases h8 : Nat.beq t 11 with
        | true =>
         rw [h8, cond_true] at h
         have := Nat.eq_of_beq_eq_true h8
         subst this
         obtain rfl := Option.some.inj h
         exact tok11
        | false => rw [h8, cond_false] at h; cases h
       | false =>
        rw [h7, cond_false] at h
        cases h8 : Nat.beq t 12 with
        | true =>
         rw [h8, cond_true] at h
         have := Nat.eq_of_beq_eq_true h8
         subst this
         obtain rfl := Option.some.inj h
         exact tok12
        | false => rw [h8, cond_false] at h; cases h
      | false =>
       rw [h6, cond_false] at h
       cases h7 : Nat.blt t 14 with
       | true =>
        rw [h7, cond_true] at h
        cases h8 : Nat.beq t 13 with
        | true =>
         rw [h8, cond_true] at h
         have := Nat.eq_of_beq_eq_true h8
         subst this
         obtain rfl := Option.some.inj h
         exact tok13
        | false => rw [h8, cond_false] at h; cases h
       | false =>
        rw [h7, cond_false] at h
        cases h8 : Nat.blt t 15 with
        | true =>
         rw [h8, cond_true] at h
         cases h9 : Nat.beq t 14 with
         | true =>
          rw [h9, cond_true] at h
          have := Nat.eq_of_beq_eq_true h9
          subst this
          obtain rfl := Option.some.inj h
          exact tok14
         | false => rw [h9, cond_false] at h; cases h
        | false =>
         rw [h8, cond_false] at h
         cases h9 : Nat.beq t 15 with
         | true =>
          rw [h9, cond_true] at h
          have := Nat.eq_of_beq_eq_true h9
          subst this
          obtain rfl := Option.some.inj h
          exact tok15
         | false => rw [h9, cond_false] at h; cases h
     | false =>
      rw [h5, cond_false] at h
      cases h6 : Nat.blt t 18 with
      | true =>
       rw [h6, cond_true] at h
       cases h7 : Nat.blt t 17 with
       | true =>
        rw [h7, cond_true] at h
        cases h8 : Nat.beq t 16 with
        | true =>
         rw [h8, cond_true] at h
         have := Nat.eq_of_beq_eq_true h8
         subst this
         obtain rfl := Option.some.inj h
         exact tok16
        | false => rw [h8, cond_false] at h; cases h
       | false =>
        rw [h7, cond_false] at h
        cases h8 : Nat.beq t 17 with
        | true =>
         rw [h8, cond_true] at h
         have := Nat.eq_of_beq_eq_true h8
         subst this
         obtain rfl := Option.some.inj h
         exact tok17
        | false => rw [h8, cond_false] at h; cases h
      | false =>
       rw [h6, cond_false] at h
       cases h7 : Nat.blt t 19 with
       | true =>
        rw [h7, cond_true] at h
        cases h8 : Nat.beq t 18 with
        | true =>
         rw [h8, cond_true] at h
         have := Nat.eq_of_beq_eq_true h8
         subst this
         obtain rfl := Option.some.inj h
         exact tok18
        | false => rw [h8, cond_false] at h; cases h
       | false =>
        rw [h7, cond_false] at h
        cases h8 : Nat.blt t 20 with
        | true =>
         rw [h8, cond_true] at h
         cases h9 : Nat.beq t 19 with
         | true =>
          rw [h9, cond_true] at h
          have := Nat.eq_of_beq_eq_true h9
          subst this
          obtain rfl := Option.some.inj h
          exact tok19
         | false => rw [h9, cond_false] at h; cases h
        | false =>
         rw [h8, cond_false] at h
         cases h9 : Nat.beq t 20 with
         | true =>
          rw [h9, cond_true] at h
          have := Nat.eq_of_beq_eq_true h9
          subst this
          obtain rfl := Option.some.inj h
          exact tok20
         | false => rw [h9, cond_false] at h; cases h
   | false =>
    rw [h3, cond_false] at h
    cases h4 : Nat.blt t 31 with
    | true =>
     rw [h4, cond_true] at h
     cases h5 : Nat.blt t 26 with
     | true =>
      rw [h5, cond_true] at h
      cases h6 : Nat.blt t 23 with
      | true =>
       rw [h6, cond_true] at h
       cases h7 : Nat.blt t 22 with
       | true =>
        rw [h7, cond_true] at h
        cases h8 : Nat.beq t 21 with
        | true =>
         rw [h8, cond_true] at h
         have := Nat.eq_of_beq_eq_true h8
         subst this
         obtain rfl := Option.some.inj h
         exact tok21
        | false => rw [h8, cond_false] at h; cases h
       | false =>
        rw [h7, cond_false] at h
        cases h8 : Nat.beq t 22 with
        | true =>
         rw [h8, cond_true] at h
         have := Nat.eq_of_beq_eq_true h8
         subst this
         obtain rfl := Option.some.inj h
         exact tok22
        | false => rw [h8, cond_false] at h; cases h
      | false =>
       rw [h6, cond_false] at h
       cases h7 : Nat.blt t 24 with
       | true =>
        rw [h7, cond_true] at h
        cases h8 : Nat.beq t 23 with
        | true =>
         rw [h8, cond_true] at h
         have := Nat.eq_of_beq_eq_true h8
         subst this
         obtain rfl := Option.some.inj h
         exact tok23
        | false => rw [h8, cond_false] at h; cases h
       | false =>
        rw [h7, cond_false] at h
        cases h8 : Nat.blt t 25 with
        | true =>
         rw [h8, cond_true] at h
         cases h9 : Nat.beq t 24 with
         | true =>
          rw [h9, cond_true] at h
          have := Nat.eq_of_beq_eq_true h9
          subst this
          obtain rfl := Option.some.inj h
          exact tok24
         | false => rw [h9, cond_false] at h; cases h
        | false =>
         rw [h8, cond_false] at h
         cases h9 : Nat.beq t 25 with
         | true =>
          rw [h9, cond_true] at h
          have := Nat.eq_of_beq_eq_true h9
          subst this
          obtain rfl := Option.some.inj h
          exact tok25
         | false => rw [h9, cond_false] at h; cases h
     | false =>
      rw [h5, cond_false] at h
      cases h6 : Nat.blt t 28 with
      | true =>
       rw [h6, cond_true] at h
       cases h7 : Nat.blt t 27 with
       | true =>
        rw [h7, cond_true] at h
        cases h8 : Nat.beq t 26 with
        | true =>
         rw [h8, cond_true] at h
         have := Nat.eq_of_beq_eq_true h8
         subst this
         obtain rfl := Option.some.inj h
         exact tok26
        | false => rw [h8, cond_false] at h; cases h
       | false =>
        rw [h7, cond_false] at h
        cases h8 : Nat.beq t 27 with
        | true =>
         rw [h8, cond_true] at h
         have := Nat.eq_of_beq_eq_true h8
         subst this
         obtain rfl := Option.some.inj h
         exact tok27
        | false => rw [h8, cond_false] at h; cases h
      | false =>
       rw [h6, cond_false] at h
       cases h7 : Nat.blt t 29 with
       | true =>
        rw [h7, cond_true] at h
        cases h8 : Nat.beq t 28 with
        | true =>
         rw [h8, cond_true] at h
         have := Nat.eq_of_beq_eq_true h8
         subst this
         obtain rfl := Option.some.inj h
         exact tok28
        | false => rw [h8, cond_false] at h; cases h
       | false =>
        rw [h7, cond_false] at h
        cases h8 : Nat.blt t 30 with
        | true =>
         rw [h8, cond_true] at h
         cases h9 : Nat.beq t 29 with
         | true =>
          rw [h9, cond_true] at h
          have := Nat.eq_of_beq_eq_true h9
          subst this
          obtain rfl := Option.some.inj h
          exact tok29
         | false => rw [h9, cond_false] at h; cases h
        | false =>
         rw [h8, cond_false] at h
         cases h9 : Nat.beq t 30 with
         | true =>
          rw [h9, cond_true] at h
          have := Nat.eq_of_beq_eq_true h9
          subst this
          obtain rfl := Option.some.inj h
          exact tok30
         | false => rw [h9, cond_false] at h; cases h
    | false =>
     rw [h4, cond_false] at h
     cases h5 : Nat.blt t 38 with
     | true =>
      rw [h5, cond_true] at h
      cases h6 : Nat.blt t 33 with
      | true =>
       rw [h6, cond_true] at h
       cases h7 : Nat.blt t 32 with
       | true =>
        rw [h7, cond_true] at h
        cases h8 : Nat.beq t 31 with
        | true =>
         rw [h8, cond_true] at h
         have := Nat.eq_of_beq_eq_true h8
         subst this
         obtain rfl := Option.some.inj h
         exact tok31
        | false => rw [h8, cond_false] at h; cases h
       | false =>
        rw [h7, cond_false] at h
        cases h8 : Nat.beq t 32 with
        | true =>
         rw [h8, cond_true] at h
         have := Nat.eq_of_beq_eq_true h8
         subst this
         obtain rfl := Option.some.inj h
         exact tok32
        | false => rw [h8, cond_false] at h; cases h
      | false =>
       rw [h6, cond_false] at h
       cases h7 : Nat.blt t 35 with
       | true =>
        rw [h7, cond_true] at h
        cases h8 : Nat.beq t 33 with
        | true =>
         rw [h8, cond_true] at h
         have := Nat.eq_of_beq_eq_true h8
         subst this
         obtain rfl := Option.some.inj h
         exact tok33
        | false => rw [h8, cond_false] at h; cases h
       | false =>
        rw [h7, cond_false] at h
        cases h8 : Nat.blt t 37 with
        | true =>
         rw [h8, cond_true] at h
         cases h9 : Nat.beq t 35 with
         | true =>
          rw [h9, cond_true] at h
          have := Nat.eq_of_beq_eq_true h9
          subst this
          obtain rfl := Option.some.inj h
          exact tok35
         | false => rw [h9, cond_false] at h; cases h
        | false =>
         rw [h8, cond_false] at h
         cases h9 : Nat.beq t 37 with
         | true =>
          rw [h9, cond_true] at h
          have := Nat.eq_of_beq_eq_true h9
          subst this
          obtain rfl := Option.some.inj h
          exact tok37
         | false => rw [h9, cond_false] at h; cases h
     | false =>
      rw [h5, cond_false] at h
      cases h6 : Nat.blt t 41 with
      | true =>
       rw [h6, cond_true] at h
       cases h7 : Nat.blt t 39 with
       | true =>
        rw [h7, cond_true] at h
        cases h8 : Nat.beq t 38 with
        | true =>
         rw [h8, cond_true] at h
         have := Nat.eq_of_beq_eq_true h8
         subst this
         obtain rfl := Option.some.inj h
         exact tok38
        | false => rw [h8, cond_false] at h; cases h
       | false =>
        rw [h7, cond_false] at h
        cases h8 : Nat.beq t 39 with
        | true =>
         rw [h8, cond_true] at h
         have := Nat.eq_of_beq_eq_true h8
         subst this
         obtain rfl := Option.some.inj h
         exact tok39
        | false => rw [h8, cond_false] at h; cases h
      | false =>
       rw [h6, cond_false] at h
       cases h7 : Nat.blt t 42 with
       | true =>
        rw [h7, cond_true] at h
        cases h8 : Nat.beq t 41 with
        | true =>
         rw [h8, cond_true] at h
         have := Nat.eq_of_beq_eq_true h8
         subst this
         obtain rfl := Option.some.inj h
         exact tok41
        | false => rw [h8, cond_false] at h; cases h
       | false =>
        rw [h7, cond_false] at h
        cases h8 : Nat.blt t 43 with
        | true =>
         rw [h8, cond_true] at h
         cases h9 : Nat.beq t 42 with
         | true =>
          rw [h9, cond_true] at h
          have := Nat.eq_of_beq_eq_true h9
          subst this
          obtain rfl := Option.some.inj h
          exact tok42
         | false => rw [h9, cond_false] at h; cases h
        | false =>
         rw [h8, cond_false] at h
         cases h9 : Nat.beq t 43 with
         | true =>
          rw [h9, cond_true] at h
          have := Nat.eq_of_beq_eq_true h9
          subst this
          obtain rfl := Option.some.inj h
          exact tok43
         | false => rw [h9, cond_false] at h; cases h
  | false =>
   rw [h2, cond_false] at h
   cases h3 : Nat.blt t 65 with
   | true =>
    rw [h3, cond_true] at h
    cases h4 : Nat.blt t 55 with
    | true =>
     rw [h4, cond_true] at h
     cases h5 : Nat.blt t 49 with
     | true =>
      rw [h5, cond_true] at h
      cases h6 : Nat.blt t 46 with
      | true =>
       rw [h6, cond_true] at h
       cases h7 : Nat.blt t 45 with
       | true =>
        rw [h7, cond_true] at h
        cases h8 : Nat.beq t 44 with
        | true =>
         rw [h8, cond_true] at h
         have := Nat.eq_of_beq_eq_true h8
         subst this
         obtain rfl := Option.some.inj h
         exact tok44
        | false => rw [h8, cond_false] at h; cases h
       | false =>
        rw [h7, cond_false] at h
        cases h8 : Nat.beq t 45 with
        | true =>
         rw [h8, cond_true] at h
         have := Nat.eq_of_beq_eq_true h8
         subst this
         obtain rfl := Option.some.inj h
         exact tok45
        | false => rw [h8, cond_false] at h; cases h
      | false =>
       rw [h6, cond_false] at h
       cases h7 : Nat.blt t 47 with
       | true =>
        rw [h7, cond_true] at h
        cases h8 : Nat.beq t 46 with
        | true =>
         rw [h8, cond_true] at h
         have := Nat.eq_of_beq_eq_true h8
         subst this
         obtain rfl := Option.some.inj h
         exact tok46
        | false => rw [h8, cond_false] at h; cases h
       | false =>
        rw [h7, cond_false] at h
        cases h8 : Nat.blt t 48 with
        | true =>
         rw [h8, cond_true] at h
         cases h9 : Nat.beq t 47 with
         | true =>
          rw [h9, cond_true] at h
          have := Nat.eq_of_beq_eq_true h9
          subst this
          obtain rfl := Option.some.inj h
          exact tok47
         | false => rw [h9, cond_false] at h; cases h
        | false =>
         rw [h8, cond_false] at h
         cases h9 : Nat.beq t 48 with
         | true =>
          rw [h9, cond_true] at h
          have := Nat.eq_of_beq_eq_true h9
          subst this
          obtain rfl := Option.some.inj h
          exact tok48
         | false => rw [h9, cond_false] at h; cases h
     | false =>
      rw [h5, cond_false] at h
      cases h6 : Nat.blt t 52 with
      | true =>
       rw [h6, cond_true] at h
       cases h7 : Nat.blt t 50 with
       | true =>
        rw [h7, cond_true] at h
        cases h8 : Nat.beq t 49 with
        | true =>
         rw [h8, cond_true] at h
         have := Nat.eq_of_beq_eq_true h8
         subst this
         obtain rfl := Option.some.inj h
         exact tok49
        | false => rw [h8, cond_false] at h; cases h
       | false =>
        rw [h7, cond_false] at h
        cases h8 : Nat.beq t 50 with
        | true =>
         rw [h8, cond_true] at h
         have := Nat.eq_of_beq_eq_true h8
         subst this
         obtain rfl := Option.some.inj h
         exact tok50
        | false => rw [h8, cond_false] at h; cases h
      | false =>
       rw [h6, cond_false] at h
       cases h7 : Nat.blt t 53 with
       | true =>
        rw [h7, cond_true] at h
        cases h8 : Nat.beq t 52 with
        | true =>
         rw [h8, cond_true] at h
         have := Nat.eq_of_beq_eq_true h8
         subst this
         obtain rfl := Option.some.inj h
         exact tok52
        | false => rw [h8, cond_false] at h; cases h
       | false =>
        rw [h7, cond_false] at h
        cases h8 : Nat.blt t 54 with
        | true =>
         rw [h8, cond_true] at h
         cases h9 : Nat.beq t 53 with
         | true =>
          rw [h9, cond_true] at h
          have := Nat.eq_of_beq_eq_true h9
          subst this
          obtain rfl := Option.some.inj h
          exact tok53
         | false => rw [h9, cond_false] at h; cases h
        | false =>
         rw [h8, cond_false] at h
         cases h9 : Nat.beq t 54 with
         | true =>
          rw [h9, cond_true] at h
          have := Nat.eq_of_beq_eq_true h9
          subst this
          obtain rfl := Option.some.inj h
          exact tok54
         | false => rw [h9, cond_false] at h; cases h
    | false =>
     rw [h4, cond_false] at h
     cases h5 : Nat.blt t 60 with
     | true =>
      rw [h5, cond_true] at h
      cases h6 : Nat.blt t 57 with
      | true =>
       rw [h6, cond_true] at h
       cases h7 : Nat.blt t 56 with
       | true =>
        rw [h7, cond_true] at h
        cases h8 : Nat.beq t 55 with
        | true =>
         rw [h8, cond_true] at h
         have := Nat.eq_of_beq_eq_true h8
         subst this
         obtain rfl := Option.some.inj h
         exact tok55
        | false => rw [h8, cond_false] at h; cases h
       | false =>
        rw [h7, cond_false] at h
        cases h8 : Nat.beq t 56 with
        | true =>
         rw [h8, cond_true] at h
         have := Nat.eq_of_beq_eq_true h8
         subst this
         obtain rfl := Option.some.inj h
         exact tok56
        | false => rw [h8, cond_false] at h; cases h
      | false =>
       rw [h6, cond_false] at h
       cases h7 : Nat.blt t 58 with
       | true =>
        rw [h7, cond_true] at h
        cases h8 : Nat.beq t 57 with
        | true =>
         rw [h8, cond_true] at h
         have := Nat.eq_of_beq_eq_true h8
         subst this
         obtain rfl := Option.some.inj h
         exact tok57
        | false => rw [h8, cond_false] at h; cases h
       | false =>
        rw [h7, cond_false] at h
        cases h8 : Nat.blt t 59 with
        | true =>
         rw [h8, cond_true] at h
         cases h9 : Nat.beq t 58 with
         | true =>
          rw [h9, cond_true] at h
          have := Nat.eq_of_beq_eq_true h9
          subst this
          obtain rfl := Option.some.inj h
          exact tok58
         | false => rw [h9, cond_false] at h; cases h
        | false =>
         rw [h8, cond_false] at h
         cases h9 : Nat.beq t 59 with
         | true =>
          rw [h9, cond_true] at h
          have := Nat.eq_of_beq_eq_true h9
          subst this
          obtain rfl := Option.some.inj h
          exact tok59
         | false => rw [h9, cond_false] at h; cases h
     | false =>
      rw [h5, cond_false] at h
      cases h6 : Nat.blt t 62 with
      | true =>
       rw [h6, cond_true] at h
       cases h7 : Nat.blt t 61 with
       | true =>
        rw [h7, cond_true] at h
        cases h8 : Nat.beq t 60 with
        | true =>
         rw [h8, cond_true] at h
         have := Nat.eq_of_beq_eq_true h8
         subst this
         obtain rfl := Option.some.inj h
         exact tok60
        | false => rw [h8, cond_false] at h; cases h
       | false =>
        rw [h7, cond_false] at h
        cases h8 : Nat.beq t 61 with
        | true =>
         rw [h8, cond_true] at h
         have := Nat.eq_of_beq_eq_true h8
         subst this
         obtain rfl := Option.some.inj h
         exact tok61
        | false => rw [h8, cond_false] at h; cases h
      | false =>
       rw [h6, cond_false] at h
       cases h7 : Nat.blt t 63 with
       | true =>
        rw [h7, cond_true] at h
        cases h8 : Nat.beq t 62 with
        | true =>
         rw [h8, cond_true] at h
         have := Nat.eq_of_beq_eq_true h8
         subst this
         obtain rfl := Option.some.inj h
         exact tok62
        | false => rw [h8, cond_false] at h; cases h
       | false =>
        rw [h7, cond_false] at h
        cases h8 : Nat.blt t 64 with
        | true =>
         rw [h8, cond_true] at h
         cases h9 : Nat.beq t 63 with
         | true =>
          rw [h9, cond_true] at h
          have := Nat.eq_of_beq_eq_true h9
          subst this
          obtain rfl := Option.some.inj h
          exact tok63
         | false => rw [h9, cond_false] at h; cases h
        | false =>
         rw [h8, cond_false] at h
         cases h9 : Nat.beq t 64 with
         | true =>
          rw [h9, cond_true] at h
          have := Nat.eq_of_beq_eq_true h9
          subst this
          obtain rfl := Option.some.inj h
          exact tok64
         | false => rw [h9, cond_false] at h; cases h
   | false =>
    rw [h3, cond_false] at h
    cases h4 : Nat.blt t 75 with
    | true =>
     rw [h4, cond_true] at h
     cases h5 : Nat.blt t 70 with
     | true =>
      rw [h5, cond_true] at h
      cases h6 : Nat.blt t 67 with
      | true =>
       rw [h6, cond_true] at h
       cases h7 : Nat.blt t 66 with
       | true =>
        rw [h7, cond_true] at h
        cases h8 : Nat.beq t 65 with
        | true =>
         rw [h8, cond_true] at h
         have := Nat.eq_of_beq_eq_true h8
         subst this
         obtain rfl := Option.some.inj h
         exact tok65
        | false => rw [h8, cond_false] at h; cases h
       | false =>
        rw [h7, cond_false] at h
        cases h8 : Nat.beq t 66 with
        | true =>
         rw [h8, cond_true] at h
         have := Nat.eq_of_beq_eq_true h8
         subst this
         obtain rfl := Option.some.inj h
         exact tok66
        | false => rw [h8, cond_false] at h; cases h
      | false =>
       rw [h6, cond_false] at h
       cases h7 : Nat.blt t 68 with
       | true =>
        rw [h7, cond_true] at h
        cases h8 : Nat.beq t 67 with
        | true =>
         rw [h8, cond_true] at h
         have := Nat.eq_of_beq_eq_true h8
         subst this
         obtain rfl := Option.some.inj h
         exact tok67
        | false => rw [h8, cond_false] at h; cases h
       | false =>
        rw [h7, cond_false] at h
        cases h8 : Nat.blt t 69 with
        | true =>
         rw [h8, cond_true] at h
         cases h9 : Nat.beq t 68 with
         | true =>
          rw [h9, cond_true] at h
          have := Nat.eq_of_beq_eq_true h9
          subst this
          obtain rfl := Option.some.inj h
          exact tok68
         | false => rw [h9, cond_false] at h; cases h
        | false =>
         rw [h8, cond_false] at h
         cases h9 : Nat.beq t 69 with
         | true =>
          rw [h9, cond_true] at h
          have := Nat.eq_of_beq_eq_true h9
          subst this
          obtain rfl := Option.some.inj h
          exact tok69
         | false => rw [h9, cond_false] at h; cases h
     | false =>
      rw [h5, cond_false] at h
      cases h6 : Nat.blt t 72 with
      | true =>
       rw [h6, cond_true] at h
       cases h7 : Nat.blt t 71 with
       | true =>
        rw [h7, cond_true] at h
        cases h8 : Nat.beq t 70 with
        | true =>
         rw [h8, cond_true] at h
         have := Nat.eq_of_beq_eq_true h8
         subst this
         obtain rfl := Option.some.inj h
         exact tok70
        | false => rw [h8, cond_false] at h; cases h
       | false =>
        rw [h7, cond_false] at h
        cases h8 : Nat.beq t 71 with
        | true =>
         rw [h8, cond_true] at h
         have := Nat.eq_of_beq_eq_true h8
         subst this
         obtain rfl := Option.some.inj h
         exact tok71
        | false => rw [h8, cond_false] at h; cases h
      | false =>
       rw [h6, cond_false] at h
       cases h7 : Nat.blt t 73 with
       | true =>
        rw [h7, cond_true] at h
        cases h8 : Nat.beq t 72 with
        | true =>
         rw [h8, cond_true] at h
         have := Nat.eq_of_beq_eq_true h8
         subst this
         obtain rfl := Option.some.inj h
         exact tok72
        | false => rw [h8, cond_false] at h; cases h
       | false =>
        rw [h7, cond_false] at h
        cases h8 : Nat.blt t 74 with
        | true =>
         rw [h8, cond_true] at h
         cases h9 : Nat.beq t 73 with
         | true =>
          rw [h9, cond_true] at h
          have := Nat.eq_of_beq_eq_true h9
          subst this
          obtain rfl := Option.some.inj h
          exact tok73
         | false => rw [h9, cond_false] at h; cases h
        | false =>
         rw [h8, cond_false] at h
         cases h9 : Nat.beq t 74 with
         | true =>
          rw [h9, cond_true] at h
          have := Nat.eq_of_beq_eq_true h9
          subst this
          obtain rfl := Option.some.inj h
          exact tok74
         | false => rw [h9, cond_false] at h; cases h
    | false =>
     rw [h4, cond_false] at h
     cases h5 : Nat.blt t 80 with
     | true =>
      rw [h5, cond_true] at h
      cases h6 : Nat.blt t 77 with
      | true =>
       rw [h6, cond_true] at h
       cases h7 : Nat.blt t 76 with
       | true =>
        rw [h7, cond_true] at h
        cases h8 : Nat.beq t 75 with
        | true =>
         rw [h8, cond_true] at h
         have := Nat.eq_of_beq_eq_true h8
         subst this
         obtain rfl := Option.some.inj h
         exact tok75
        | false => rw [h8, cond_false] at h; cases h
       | false =>
        rw [h7, cond_false] at h
        cases h8 : Nat.beq t 76 with
        | true =>
         rw [h8, cond_true] at h
         have := Nat.eq_of_beq_eq_true h8
         subst this
         obtain rfl := Option.some.inj h
         exact tok76
        | false => rw [h8, cond_false] at h; cases h
      | false =>
       rw [h6, cond_false] at h
       cases h7 : Nat.blt t 78 with
       | true =>
        rw [h7, cond_true] at h
        cases h8 : Nat.beq t 77 with
        | true =>
         rw [h8, cond_true] at h
         have := Nat.eq_of_beq_eq_true h8
         subst this
         obtain rfl := Option.some.inj h
         exact tok77
        | false => rw [h8, cond_false] at h; cases h
       | false =>
        rw [h7, cond_false] at h
        cases h8 : Nat.blt t 79 with
        | true =>
         rw [h8, cond_true] at h
         cases h9 : Nat.beq t 78 with
         | true =>
          rw [h9, cond_true] at h
          have := Nat.eq_of_beq_eq_true h9
          subst this
          obtain rfl := Option.some.inj h
          exact tok78
         | false => rw [h9, cond_false] at h; cases h
        | false =>
         rw [h8, cond_false] at h
         cases h9 : Nat.beq t 79 with
         | true =>
          rw [h9, cond_true] at h
          have := Nat.eq_of_beq_eq_true h9
          subst this
          obtain rfl := Option.some.inj h
          exact tok79
         | false => rw [h9, cond_false] at h; cases h
     | false =>
      rw [h5, cond_false] at h
      cases h6 : Nat.blt t 82 with
      | true =>
       rw [h6, cond_true] at h
       cases h7 : Nat.blt t 81 with
       | true =>
        rw [h7, cond_true] at h
        cases h8 : Nat.beq t 80 with
        | true =>
         rw [h8, cond_true] at h
         have := Nat.eq_of_beq_eq_true h8
         subst this
         obtain rfl := Option.some.inj h
         exact tok80
        | false => rw [h8, cond_false] at h; cases h
       | false =>
        rw [h7, cond_false] at h
        cases h8 : Nat.beq t 81 with
        | true =>
         rw [h8, cond_true] at h
         have := Nat.eq_of_beq_eq_true h8
         subst this
         obtain rfl := Option.some.inj h
         exact tok81
        | false => rw [h8, cond_false] at h; cases h
      | false =>
       rw [h6, cond_false] at h
       cases h7 : Nat.blt t 84 with
       | true =>
        rw [h7, cond_true] at h
        cases h8 : Nat.beq t 82 with
        | true =>
         rw [h8, cond_true] at h
         have := Nat.eq_of_beq_eq_true h8
         subst this
         obtain rfl := Option.some.inj h
         exact tok82
        | false => rw [h8, cond_false] at h; cases h
       | false =>
        rw [h7, cond_false] at h
        cases h8 : Nat.blt t 85 with
        | true =>
         rw [h8, cond_true] at h
         cases h9 : Nat.beq t 84 with
         | true =>
          rw [h9, cond_true] at h
          have := Nat.eq_of_beq_eq_true h9
          subst this
          obtain rfl := Option.some.inj h
          exact tok84
         | false => rw [h9, cond_false] at h; cases h
        | false =>
         rw [h8, cond_false] at h
         cases h9 : Nat.beq t 85 with
         | true =>
          rw [h9, cond_true] at h
          have := Nat.eq_of_beq_eq_true h9
          subst this
          obtain rfl := Option.some.inj h
          exact tok85
         | false => rw [h9, cond_false] at h; cases h
 | false =>
  rw [h1, cond_false] at h
  cases h2 : Nat.blt t 131 with
  | true =>
   rw [h2, cond_true] at h
   cases h3 : Nat.blt t 107 with
   | true =>
    rw [h3, cond_true] at h
    cases h4 : Nat.blt t 97 with
    | true =>
     rw [h4, cond_true] at h
     cases h5 : Nat.blt t 92 with
     | true =>
      rw [h5, cond_true] at h
      cases h6 : Nat.blt t 89 with
      | true =>
       rw [h6, cond_true] at h
       cases h7 : Nat.blt t 88 with
       | true =>
        rw [h7, cond_true] at h
        cases h8 : Nat.beq t 87 with
        | true =>
         rw [h8, cond_true] at h
         have := Nat.eq_of_beq_eq_true h8
         subst this
         obtain rfl := Option.some.inj h
         exact tok87
        | false => rw [h8, cond_false] at h; cases h
       | false =>
        rw [h7, cond_false] at h
        cases h8 : Nat.beq t 88 with
        | true =>
         rw [h8, cond_true] at h
         have := Nat.eq_of_beq_eq_true h8
         subst this
         obtain rfl := Option.some.inj h
         exact tok88
        | false => rw [h8, cond_false] at h; cases h
      | false =>
       rw [h6, cond_false] at h
       cases h7 : Nat.blt t 90 with
       | true =>
        rw [h7, cond_true] at h
        cases h8 : Nat.beq t 89 with
        | true =>
         rw [h8, cond_true] at h
         have := Nat.eq_of_beq_eq_true h8
         subst this
         obtain rfl := Option.some.inj h
         exact tok89
        | false => rw [h8, cond_false] at h; cases h
       | false =>
        rw [h7, cond_false] at h
        cases h8 : Nat.blt t 91 with
        | true =>
         rw [h8, cond_true] at h
         cases h9 : Nat.beq t 90 with
         | true =>
          rw [h9, cond_true] at h
          have := Nat.eq_of_beq_eq_true h9
          subst this
          obtain rfl := Option.some.inj h
          exact tok90
         | false => rw [h9, cond_false] at h; cases h
        | false =>
         rw [h8, cond_false] at h
         cases h9 : Nat.beq t 91 with
         | true =>
          rw [h9, cond_true] at h
          have := Nat.eq_of_beq_eq_true h9
          subst this
          obtain rfl := Option.some.inj h
          exact tok91
         | false => rw [h9, cond_false] at h; cases h
     | false =>
      rw [h5, cond_false] at h
      cases h6 : Nat.blt t 94 with
      | true =>
       rw [h6, cond_true] at h
       cases h7 : Nat.blt t 93 with
       | true =>
        rw [h7, cond_true] at h
        cases h8 : Nat.beq t 92 with
        | true =>
         rw [h8, cond_true] at h
         have := Nat.eq_of_beq_eq_true h8
         subst this
         obtain rfl := Option.some.inj h
         exact tok92
        | false => rw [h8, cond_false] at h; cases h
       | false =>
        rw [h7, cond_false] at h
        cases h8 : Nat.beq t 93 with
        | true =>
         rw [h8, cond_true] at h
         have := Nat.eq_of_beq_eq_true h8
         subst this
         obtain rfl := Option.some.inj h
         exact tok93
        | false => rw [h8, cond_false] at h; cases h
      | false =>
       rw [h6, cond_false] at h
       cases h7 : Nat.blt t 95 with
       | true =>
        rw [h7, cond_true] at h
        cases h8 : Nat.beq t 94 with
        | true =>
         rw [h8, cond_true] at h
         have := Nat.eq_of_beq_eq_true h8
         subst this
         obtain rfl := Option.some.inj h
         exact tok94
        | false => rw [h8, cond_false] at h; cases h
       | false =>
        rw [h7, cond_false] at h
        cases h8 : Nat.blt t 96 with
        | true =>
         rw [h8, cond_true] at h
         cases h9 : Nat.beq t 95 with
         | true =>
          rw [h9, cond_true] at h
          have := Nat.eq_of_beq_eq_true h9
          subst this
          obtain rfl := Option.some.inj h
          exact tok95
         | false => rw [h9, cond_false] at h; cases h
        | false =>
         rw [h8, cond_false] at h
         cases h9 : Nat.beq t 96 with
         | true =>
          rw [h9, cond_true] at h
          have := Nat.eq_of_beq_eq_true h9
          subst this
          obtain rfl := Option.some.inj h
          exact tok96
         | false => rw [h9, cond_false] at h; cases h
    | false =>
     rw [h4, cond_false] at h
     cases h5 : Nat.blt t 102 with
     | true =>
      rw [h5, cond_true] at h
      cases h6 : Nat.blt t 99 with
      | true =>
       rw [h6, cond_true] at h
       cases h7 : Nat.blt t 98 with
       | true =>
        rw [h7, cond_true] at h
        cases h8 : Nat.beq t 97 with
        | true =>
         rw [h8, cond_true] at h
         have := Nat.eq_of_beq_eq_true h8
         subst this
         obtain rfl := Option.some.inj h
         exact tok97
        | false => rw [h8, cond_false] at h; cases h
       | false =>
        rw [h7, cond_false] at h
        cases h8 : Nat.beq t 98 with
        | true =>
         rw [h8, cond_true] at h
         have := Nat.eq_of_beq_eq_true h8
         subst this
         obtain rfl := Option.some.inj h
         exact tok98
        | false => rw [h8, cond_false] at h; cases h
      | false =>
       rw [h6, cond_false] at h
       cases h7 : Nat.blt t 100 with
       | true =>
        rw [h7, cond_true] at h
        cases h8 : Nat.beq t 99 with
        | true =>
         rw [h8, cond_true] at h
         have := Nat.eq_of_beq_eq_true h8
         subst this
         obtain rfl := Option.some.inj h
         exact tok99
        | false => rw [h8, cond_false] at h; cases h
       | false =>
        rw [h7, cond_false] at h
        cases h8 : Nat.blt t 101 with
        | true =>
         rw [h8, cond_true] at h
         cases h9 : Nat.beq t 100 with
         | true =>
          rw [h9, cond_true] at h
          have := Nat.eq_of_beq_eq_true h9
          subst this
          obtain rfl := Option.some.inj h
          exact tok100
         | false => rw [h9, cond_false] at h; cases h
        | false =>
         rw [h8, cond_false] at h
         cases h9 : Nat.beq t 101 with
         | true =>
          rw [h9, cond_true] at h
          have := Nat.eq_of_beq_eq_true h9
          subst this
          obtain rfl := Option.some.inj h
          exact tok101
         | false => rw [h9, cond_false] at h; cases h
     | false =>
      rw [h5, cond_false] at h
      cases h6 : Nat.blt t 104 with
      | true =>
       rw [h6, cond_true] at h
       cases h7 : Nat.blt t 103 with
       | true =>
        rw [h7, cond_true] at h
        cases h8 : Nat.beq t 102 with
        | true =>
         rw [h8, cond_true] at h
         have := Nat.eq_of_beq_eq_true h8
         subst this
         obtain rfl := Option.some.inj h
         exact tok102
        | false => rw [h8, cond_false] at h; cases h
       | false =>
        rw [h7, cond_false] at h
        cases h8 : Nat.beq t 103 with
        | true =>
         rw [h8, cond_true] at h
         have := Nat.eq_of_beq_eq_true h8
         subst this
         obtain rfl := Option.some.inj h
         exact tok103
        | false => rw [h8, cond_false] at h; cases h
      | false =>
       rw [h6, cond_false] at h
       cases h7 : Nat.blt t 105 with
       | true =>
        rw [h7, cond_true] at h
        cases h8 : Nat.beq t 104 with
        | true =>
         rw [h8, cond_true] at h
         have := Nat.eq_of_beq_eq_true h8
         subst this
         obtain rfl := Option.some.inj h
         exact tok104
        | false => rw [h8, cond_false] at h; cases h
       | false =>
        rw [h7, cond_false] at h
        cases h8 : Nat.blt t 106 with
        | true =>
         rw [h8, cond_true] at h
         cases h9 : Nat.beq t 105 with
         | true =>
          rw [h9, cond_true] at h
          have := Nat.eq_of_beq_eq_true h9
          subst this
          obtain rfl := Option.some.inj h
          exact tok105
         | false => rw [h9, cond_false] at h; cases h
        | false =>
         rw [h8, cond_false] at h
         cases h9 : Nat.beq t 106 with
         | true =>
          rw [h9, cond_true] at h
          have := Nat.eq_of_beq_eq_true h9
          subst this
          obtain rfl := Option.some.inj h
          exact tok106
         | false => rw [h9, cond_false] at h; cases h
   | false =>
    rw [h3, cond_false] at h
    cases h4 : Nat.blt t 120 with
    | true =>
     rw [h4, cond_true] at h
     cases h5 : Nat.blt t 115 with
     | true =>
      rw [h5, cond_true] at h
      cases h6 : Nat.blt t 110 with
      | true =>
       rw [h6, cond_true] at h
       cases h7 : Nat.blt t 108 with
       | true =>
        rw [h7, cond_true] at h
        cases h8 : Nat.beq t 107 with
        | true =>
         rw [h8, cond_true] at h
         have := Nat.eq_of_beq_eq_true h8
         subst this
         obtain rfl := Option.some.inj h
         exact tok107
        | false => rw [h8, cond_false] at h; cases h
       | false =>
        rw [h7, cond_false] at h
        cases h8 : Nat.beq t 108 with
        | true =>
         rw [h8, cond_true] at h
         have := Nat.eq_of_beq_eq_true h8
         subst this
         obtain rfl := Option.some.inj h
         exact tok108
        | false => rw [h8, cond_false] at h; cases h
      | false =>
       rw [h6, cond_false] at h
       cases h7 : Nat.blt t 112 with
       | true =>
        rw [h7, cond_true] at h
        cases h8 : Nat.beq t 110 with
        | true =>
         rw [h8, cond_true] at h
         have := Nat.eq_of_beq_eq_true h8
         subst this
         obtain rfl := Option.some.inj h
         exact tok110
        | false => rw [h8, cond_false] at h; cases h
       | false =>
        rw [h7, cond_false] at h
        cases h8 : Nat.blt t 113 with
        | true =>
         rw [h8, cond_true] at h
         cases h9 : Nat.beq t 112 with
         | true =>
          rw [h9, cond_true] at h
          have := Nat.eq_of_beq_eq_true h9
          subst this
          obtain rfl := Option.some.inj h
          exact tok112
         | false => rw [h9, cond_false] at h; cases h
        | false =>
         rw [h8, cond_false] at h
         cases h9 : Nat.beq t 113 with
         | true =>
          rw [h9, cond_true] at h
          have := Nat.eq_of_beq_eq_true h9
          subst this
          obtain rfl := Option.some.inj h
          exact tok113
         | false => rw [h9, cond_false] at h; cases h
     | false =>
      rw [h5, cond_false] at h
      cases h6 : Nat.blt t 117 with
      | true =>
       rw [h6, cond_true] at h
       cases h7 : Nat.blt t 116 with
       | true =>
        rw [h7, cond_true] at h
        cases h8 : Nat.beq t 115 with
        | true =>
         rw [h8, cond_true] at h
         have := Nat.eq_of_beq_eq_true h8
         subst this
         obtain rfl := Option.some.inj h
         exact tok115
        | false => rw [h8, cond_false] at h; cases h
       | false =>
        rw [h7, cond_false] at h
        cases h8 : Nat.beq t 116 with
        | true =>
         rw [h8, cond_true] at h
         have := Nat.eq_of_beq_eq_true h8
         subst this
         obtain rfl := Option.some.inj h
         exact tok116
        | false => rw [h8, cond_false] at h; cases h
      | false =>
       rw [h6, cond_false] at h
       cases h7 : Nat.blt t 118 with
       | true =>
        rw [h7, cond_true] at h
        cases h8 : Nat.beq t 117 with
        | true =>
         rw [h8, cond_true] at h
         have := Nat.eq_of_beq_eq_true h8
         subst this
         obtain rfl := Option.some.inj h
         exact tok117
        | false => rw [h8, cond_false] at h; cases h
       | false =>
        rw [h7, cond_false] at h
        cases h8 : Nat.blt t 119 with
        | true =>
         rw [h8, cond_true] at h
         cases h9 : Nat.beq t 118 with
         | true =>
          rw [h9, cond_true] at h
          have := Nat.eq_of_beq_eq_true h9
          subst this
          obtain rfl := Option.some.inj h
          exact tok118
         | false => rw [h9, cond_false] at h; cases h
        | false =>
         rw [h8, cond_false] at h
         cases h9 : Nat.beq t 119 with
         | true =>
          rw [h9, cond_true] at h
          have := Nat.eq_of_beq_eq_true h9
          subst this
          obtain rfl := Option.some.inj h
          exact tok119
         | false => rw [h9, cond_false] at h; cases h
    | false =>
     rw [h4, cond_false] at h
     cases h5 : Nat.blt t 126 with
     | true =>
      rw [h5, cond_true] at h
      cases h6 : Nat.blt t 122 with
      | true =>
       rw [h6, cond_true] at h
       cases h7 : Nat.blt t 121 with
       | true =>
        rw [h7, cond_true] at h
        cases h8 : Nat.beq t 120 with
        | true =>
         rw [h8, cond_true] at h
         have := Nat.eq_of_beq_eq_true h8
         subst this
         obtain rfl := Option.some.inj h
         exact tok120
        | false => rw [h8, cond_false] at h; cases h
       | false =>
        rw [h7, cond_false] at h
        cases h8 : Nat.beq t 121 with
        | true =>
         rw [h8, cond_true] at h
         have := Nat.eq_of_beq_eq_true h8
         subst this
         obtain rfl := Option.some.inj h
         exact tok121
        | false => rw [h8, cond_false] at h; cases h
      | false =>
       rw [h6, cond_false] at h
       cases h7 : Nat.blt t 123 with
       | true =>
        rw [h7, cond_true] at h
        cases h8 : Nat.beq t 122 with
        | true =>
         rw [h8, cond_true] at h
         have := Nat.eq_of_beq_eq_true h8
         subst this
         obtain rfl := Option.some.inj h
         exact tok122
        | false => rw [h8, cond_false] at h; cases h
       | false =>
        rw [h7, cond_false] at h
        cases h8 : Nat.blt t 125 with
        | true =>
         rw [h8, cond_true] at h
         cases h9 : Nat.beq t 123 with
         | true =>
          rw [h9, cond_true] at h
          have := Nat.eq_of_beq_eq_true h9
          subst this
          obtain rfl := Option.some.inj h
          exact tok123
         | false => rw [h9, cond_false] at h; cases h
        | false =>
         rw [h8, cond_false] at h
         cases h9 : Nat.beq t 125 with
         | true =>
          rw [h9, cond_true] at h
          have := Nat.eq_of_beq_eq_true h9
          subst this
          obtain rfl := Option.some.inj h
          exact tok125
         | false => rw [h9, cond_false] at h; cases h
     | false =>
      rw [h5, cond_false] at h
      cases h6 : Nat.blt t 128 with
      | true =>
       rw [h6, cond_true] at h
       cases h7 : Nat.blt t 127 with
       | true =>
        rw [h7, cond_true] at h
        cases h8 : Nat.beq t 126 with
        | true =>
         rw [h8, cond_true] at h
         have := Nat.eq_of_beq_eq_true h8
         subst this
         obtain rfl := Option.some.inj h
         exact tok126
        | false => rw [h8, cond_false] at h; cases h
       | false =>
        rw [h7, cond_false] at h
        cases h8 : Nat.beq t 127 with
        | true =>
         rw [h8, cond_true] at h
         have := Nat.eq_of_beq_eq_true h8
         subst this
         obtain rfl := Option.some.inj h
         exact tok127
        | false => rw [h8, cond_false] at h; cases h
      | false =>
       rw [h6, cond_false] at h
       cases h7 : Nat.blt t 129 with
       | true =>
        rw [h7, cond_true] at h
        cases h8 : Nat.beq t 128 with
        | true =>
         rw [h8, cond_true] at h
         have := Nat.eq_of_beq_eq_true h8
         subst this
         obtain rfl := Option.some.inj h
         exact tok128
        | false => rw [h8, cond_false] at h; cases h
       | false =>
        rw [h7, cond_false] at h
        cases h8 : Nat.blt t 130 with
        | true =>
         rw [h8, cond_true] at h
         cases h9 : Nat.beq t 129 with
         | true =>
          rw [h9, cond_true] at h
          have := Nat.eq_of_beq_eq_true h9
          subst this
          obtain rfl := Option.some.inj h
          exact tok129
         | false => rw [h9, cond_false] at h; cases h
        | false =>
         rw [h8, cond_false] at h
         cases h9 : Nat.beq t 130 with
         | true =>
          rw [h9, cond_true] at h
          have := Nat.eq_of_beq_eq_true h9
          subst this
          obtain rfl := Option.some.inj h
          exact tok130
         | false => rw [h9, cond_false] at h; cases h
  | false =>
   rw [h2, cond_false] at h
   cases h3 : Nat.blt t 155 with
   | true =>
    rw [h3, cond_true] at h
    cases h4 : Nat.blt t 142 with
    | true =>
     rw [h4, cond_true] at h
     cases h5 : Nat.blt t 137 with
     | true =>
      rw [h5, cond_true] at h
      cases h6 : Nat.blt t 133 with
      | true =>
       rw [h6, cond_true] at h
       cases h7 : Nat.blt t 132 with
       | true =>
        rw [h7, cond_true] at h
        cases h8 : Nat.beq t 131 with
        | true =>
         rw [h8, cond_true] at h
         have := Nat.eq_of_beq_eq_true h8
         subst this
         obtain rfl := Option.some.inj h
         exact tok131
        | false => rw [h8, cond_false] at h; cases h
       | false =>
        rw [h7, cond_false] at h
        cases h8 : Nat.beq t 132 with
        | true =>
         rw [h8, cond_true] at h
         have := Nat.eq_of_beq_eq_true h8
         subst this
         obtain rfl := Option.some.inj h
         exact tok132
        | false => rw [h8, cond_false] at h; cases h
      | false =>
       rw [h6, cond_false] at h
       cases h7 : Nat.blt t 135 with
       | true =>
        rw [h7, cond_true] at h
        cases h8 : Nat.beq t 133 with
        | true =>
         rw [h8, cond_true] at h
         have := Nat.eq_of_beq_eq_true h8
         subst this
         obtain rfl := Option.some.inj h
         exact tok133
        | false => rw [h8, cond_false] at h; cases h
       | false =>
        rw [h7, cond_false] at h
        cases h8 : Nat.blt t 136 with
        | true =>
         rw [h8, cond_true] at h
         cases h9 : Nat.beq t 135 with
         | true =>
          rw [h9, cond_true] at h
          have := Nat.eq_of_beq_eq_true h9
          subst this
          obtain rfl := Option.some.inj h
          exact tok135
         | false => rw [h9, cond_false] at h; cases h
        | false =>
         rw [h8, cond_false] at h
         cases h9 : Nat.beq t 136 with
         | true =>
          rw [h9, cond_true] at h
          have := Nat.eq_of_beq_eq_true h9
          subst this
          obtain rfl := Option.some.inj h
          exact tok136
         | false => rw [h9, cond_false] at h; cases h
     | false =>
      rw [h5, cond_false] at h
      cases h6 : Nat.blt t 139 with
      | true =>
       rw [h6, cond_true] at h
       cases h7 : Nat.blt t 138 with
       | true =>
        rw [h7, cond_true] at h
        cases h8 : Nat.beq t 137 with
        | true =>
         rw [h8, cond_true] at h
         have := Nat.eq_of_beq_eq_true h8
         subst this
         obtain rfl := Option.some.inj h
         exact tok137
        | false => rw [h8, cond_false] at h; cases h
       | false =>
        rw [h7, cond_false] at h
        cases h8 : Nat.beq t 138 with
        | true =>
         rw [h8, cond_true] at h
         have := Nat.eq_of_beq_eq_true h8
         subst this
         obtain rfl := Option.some.inj h
         exact tok138
        | false => rw [h8, cond_false] at h; cases h
      | false =>
       rw [h6, cond_false] at h
       cases h7 : Nat.blt t 140 with
       | true =>
        rw [h7, cond_true] at h
        cases h8 : Nat.beq t 139 with
        | true =>
         rw [h8, cond_true] at h
         have := Nat.eq_of_beq_eq_true h8
         subst this
         obtain rfl := Option.some.inj h
         exact tok139
        | false => rw [h8, cond_false] at h; cases h
       | false =>
        rw [h7, cond_false] at h
        cases h8 : Nat.blt t 141 with
        | true =>
         rw [h8, cond_true] at h
         cases h9 : Nat.beq t 140 with
         | true =>
          rw [h9, cond_true] at h
          have := Nat.eq_of_beq_eq_true h9
          subst this
          obtain rfl := Option.some.inj h
          exact tok140
         | false => rw [h9, cond_false] at h; cases h
        | false =>
         rw [h8, cond_false] at h
         cases h9 : Nat.beq t 141 with
         | true =>
          rw [h9, cond_true] at h
          have := Nat.eq_of_beq_eq_true h9
          subst this
          obtain rfl := Option.some.inj h
          exact tok141
         | false => rw [h9, cond_false] at h; cases h
    | false =>
     rw [h4, cond_false] at h
     cases h5 : Nat.blt t 148 with
     | true =>
      rw [h5, cond_true] at h
      cases h6 : Nat.blt t 145 with
      | true =>
       rw [h6, cond_true] at h
       cases h7 : Nat.blt t 144 with
       | true =>
        rw [h7, cond_true] at h
        cases h8 : Nat.beq t 142 with
        | true =>
         rw [h8, cond_true] at h
         have := Nat.eq_of_beq_eq_true h8
         subst this
         obtain rfl := Option.some.inj h
         exact tok142
        | false => rw [h8, cond_false] at h; cases h
       | false =>
        rw [h7, cond_false] at h
        cases h8 : Nat.beq t 144 with
        | true =>
         rw [h8, cond_true] at h
         have := Nat.eq_of_beq_eq_true h8
         subst this
         obtain rfl := Option.some.inj h
         exact tok144
        | false => rw [h8, cond_false] at h; cases h
      | false =>
       rw [h6, cond_false] at h
       cases h7 : Nat.blt t 146 with
       | true =>
        rw [h7, cond_true] at h
        cases h8 : Nat.beq t 145 with
        | true =>
         rw [h8, cond_true] at h
         have := Nat.eq_of_beq_eq_true h8
         subst this
         obtain rfl := Option.some.inj h
         exact tok145
        | false => rw [h8, cond_false] at h; cases h
       | false =>
        rw [h7, cond_false] at h
        cases h8 : Nat.blt t 147 with
        | true =>
         rw [h8, cond_true] at h
         cases h9 : Nat.beq t 146 with
         | true =>
          rw [h9, cond_true] at h
          have := Nat.eq_of_beq_eq_true h9
          subst this
          obtain rfl := Option.some.inj h
          exact tok146
         | false => rw [h9, cond_false] at h; cases h
        | false =>
         rw [h8, cond_false] at h
         cases h9 : Nat.beq t 147 with
         | true =>
          rw [h9, cond_true] at h
          have := Nat.eq_of_beq_eq_true h9
          subst this
          obtain rfl := Option.some.inj h
          exact tok147
         | false => rw [h9, cond_false] at h; cases h
     | false =>
      rw [h5, cond_false] at h
      cases h6 : Nat.blt t 151 with
      | true =>
       rw [h6, cond_true] at h
       cases h7 : Nat.blt t 149 with
       | true =>
        rw [h7, cond_true] at h
        cases h8 : Nat.beq t 148 with
        | true =>
         rw [h8, cond_true] at h
         have := Nat.eq_of_beq_eq_true h8
         subst this
         obtain rfl := Option.some.inj h
         exact tok148
        | false => rw [h8, cond_false] at h; cases h
       | false =>
        rw [h7, cond_false] at h
        cases h8 : Nat.beq t 149 with
        | true =>
         rw [h8, cond_true] at h
         have := Nat.eq_of_beq_eq_true h8
         subst this
         obtain rfl := Option.some.inj h
         exact tok149
        | false => rw [h8, cond_false] at h; cases h
      | false =>
       rw [h6, cond_false] at h
       cases h7 : Nat.blt t 153 with
       | true =>
        rw [h7, cond_true] at h
        cases h8 : Nat.beq t 151 with
        | true =>
         rw [h8, cond_true] at h
         have := Nat.eq_of_beq_eq_true h8
         subst this
         obtain rfl := Option.some.inj h
         exact tok151
        | false => rw [h8, cond_false] at h; cases h
       | false =>
        rw [h7, cond_false] at h
        cases h8 : Nat.blt t 154 with
        | true =>
         rw [h8, cond_true] at h
         cases h9 : Nat.beq t 153 with
         | true =>
          rw [h9, cond_true] at h
          have := Nat.eq_of_beq_eq_true h9
          subst this
          obtain rfl := Option.some.inj h
          exact tok153
         | false => rw [h9, cond_false] at h; cases h
        | false =>
         rw [h8, cond_false] at h
         cases h9 : Nat.beq t 154 with
         | true =>
          rw [h9, cond_true] at h
          have := Nat.eq_of_beq_eq_true h9
          subst this
          obtain rfl := Option.some.inj h
          exact tok154
         | false => rw [h9, cond_false] at h; cases h
   | false =>
    rw [h3, cond_false] at h
    cases h4 : Nat.blt t 165 with
    | true =>
     rw [h4, cond_true] at h
     cases h5 : Nat.blt t 160 with
     | true =>
      rw [h5, cond_true] at h
      cases h6 : Nat.blt t 157 with
      | true =>
       rw [h6, cond_true] at h
       cases h7 : Nat.blt t 156 with
       | true =>
        rw [h7, cond_true] at h
        cases h8 : Nat.beq t 155 with
        | true =>
         rw [h8, cond_true] at h
         have := Nat.eq_of_beq_eq_true h8
         subst this
         obtain rfl := Option.some.inj h
         exact tok155
        | false => rw [h8, cond_false] at h; cases h
       | false =>
        rw [h7, cond_false] at h
        cases h8 : Nat.beq t 156 with
        | true =>
         rw [h8, cond_true] at h
         have := Nat.eq_of_beq_eq_true h8
         subst this
         obtain rfl := Option.some.inj h
         exact tok156
        | false => rw [h8, cond_false] at h; cases h
      | false =>
       rw [h6, cond_false] at h
       cases h7 : Nat.blt t 158 with
       | true =>
        rw [h7, cond_true] at h
        cases h8 : Nat.beq t 157 with
        | true =>
         rw [h8, cond_true] at h
         have := Nat.eq_of_beq_eq_true h8
         subst this
         obtain rfl := Option.some.inj h
         exact tok157
        | false => rw [h8, cond_false] at h; cases h
       | false =>
        rw [h7, cond_false] at h
        cases h8 : Nat.blt t 159 with
        | true =>
         rw [h8, cond_true] at h
         cases h9 : Nat.beq t 158 with
         | true =>
          rw [h9, cond_true] at h
          have := Nat.eq_of_beq_eq_true h9
          subst this
          obtain rfl := Option.some.inj h
          exact tok158
         | false => rw [h9, cond_false] at h; cases h
        | false =>
         rw [h8, cond_false] at h
         cases h9 : Nat.beq t 159 with
         | true =>
          rw [h9, cond_true] at h
          have := Nat.eq_of_beq_eq_true h9
          subst this
          obtain rfl := Option.some.inj h
          exact tok159
         | false => rw [h9, cond_false] at h; cases h
     | false =>
      rw [h5, cond_false] at h
      cases h6 : Nat.blt t 162 with
      | true =>
       rw [h6, cond_true] at h
       cases h7 : Nat.blt t 161 with
       | true =>
        rw [h7, cond_true] at h
        cases h8 : Nat.beq t 160 with
        | true =>
         rw [h8, cond_true] at h
         have := Nat.eq_of_beq_eq_true h8
         subst this
         obtain rfl := Option.some.inj h
         exact tok160
        | false => rw [h8, cond_false] at h; cases h
       | false =>
        rw [h7, cond_false] at h
        cases h8 : Nat.beq t 161 with
        | true =>
         rw [h8, cond_true] at h
         have := Nat.eq_of_beq_eq_true h8
         subst this
         obtain rfl := Option.some.inj h
         exact tok161
        | false => rw [h8, cond_false] at h; cases h
      | false =>
       rw [h6, cond_false] at h
       cases h7 : Nat.blt t 163 with
       | true =>
        rw [h7, cond_true] at h
        cases h8 : Nat.beq t 162 with
        | true =>
         rw [h8, cond_true] at h
         have := Nat.eq_of_beq_eq_true h8
         subst this
         obtain rfl := Option.some.inj h
         exact tok162
        | false => rw [h8, cond_false] at h; cases h
       | false =>
        rw [h7, cond_false] at h
        cases h8 : Nat.blt t 164 with
        | true =>
         rw [h8, cond_true] at h
         cases h9 : Nat.beq t 163 with
         | true =>
          rw [h9, cond_true] at h
          have := Nat.eq_of_beq_eq_true h9
          subst this
          obtain rfl := Option.some.inj h
          exact tok163
         | false => rw [h9, cond_false] at h; cases h
        | false =>
         rw [h8, cond_false] at h
         cases h9 : Nat.beq t 164 with
         | true =>
          rw [h9, cond_true] at h
          have := Nat.eq_of_beq_eq_true h9
          subst this
          obtain rfl := Option.some.inj h
          exact tok164
         | false => rw [h9, cond_false] at h; cases h
    | false =>
     rw [h4, cond_false] at h
     cases h5 : Nat.blt t 170 with
     | true =>
      rw [h5, cond_true] at h
      cases h6 : Nat.blt t 167 with
      | true =>
       rw [h6, cond_true] at h
       cases h7 : Nat.blt t 166 with
       | true =>
        rw [h7, cond_true] at h
        cases h8 : Nat.beq t 165 with
        | true =>
         rw [h8, cond_true] at h
         have := Nat.eq_of_beq_eq_true h8
         subst this
         obtain rfl := Option.some.inj h
         exact tok165
        | false => rw [h8, cond_false] at h; cases h
       | false =>
        rw [h7, cond_false] at h
        cases h8 : Nat.beq t 166 with
        | true =>
         rw [h8, cond_true] at h
         have := Nat.eq_of_beq_eq_true h8
         subst this
         obtain rfl := Option.some.inj h
         exact tok166
        | false => rw [h8, cond_false] at h; cases h
      | false =>
       rw [h6, cond_false] at h
       cases h7 : Nat.blt t 168 with
       | true =>
        rw [h7, cond_true] at h
        cases h8 : Nat.beq t 167 with
        | true =>
         rw [h8, cond_true] at h
         have := Nat.eq_of_beq_eq_true h8
         subst this
         obtain rfl := Option.some.inj h
         exact tok167
        | false => rw [h8, cond_false] at h; cases h
       | false =>
        rw [h7, cond_false] at h
        cases h8 : Nat.blt t 169 with
        | true =>
         rw [h8, cond_true] at h
         cases h9 : Nat.beq t 168 with
         | true =>
          rw [h9, cond_true] at h
          have := Nat.eq_of_beq_eq_true h9
          subst this
          obtain rfl := Option.some.inj h
          exact tok168
         | false => rw [h9, cond_false] at h; cases h
        | false =>
         rw [h8, cond_false] at h
         cases h9 : Nat.beq t 169 with
         | true =>
          rw [h9, cond_true] at h
          have := Nat.eq_of_beq_eq_true h9
          subst this
          obtain rfl := Option.some.inj h
          exact tok169
         | false => rw [h9, cond_false] at h; cases h
     | false =>
      rw [h5, cond_false] at h
      cases h6 : Nat.blt t 173 with
      | true =>
       rw [h6, cond_true] at h
       cases h7 : Nat.blt t 171 with
       | true =>
        rw [h7, cond_true] at h
        cases h8 : Nat.beq t 170 with
        | true =>
         rw [h8, cond_true] at h
         have := Nat.eq_of_beq_eq_true h8
         subst this
         obtain rfl := Option.some.inj h
         exact tok170
        | false => rw [h8, cond_false] at h; cases h
       | false =>
        rw [h7, cond_false] at h
        cases h8 : Nat.blt t 172 with
        | true =>
         rw [h8, cond_true] at h
         cases h9 : Nat.beq t 171 with
         | true =>
          rw [h9, cond_true] at h
          have := Nat.eq_of_beq_eq_true h9
          subst this
          obtain rfl := Option.some.inj h
          exact tok171
         | false => rw [h9, cond_false] at h; cases h
        | false =>
         rw [h8, cond_false] at h
         cases h9 : Nat.beq t 172 with
         | true =>
          rw [h9, cond_true] at h
          have := Nat.eq_of_beq_eq_true h9
          subst this
          obtain rfl := Option.some.inj h
          exact tok172
         | false => rw [h9, cond_false] at h; cases h
      | false =>
       rw [h6, cond_false] at h
       cases h7 : Nat.blt t 174 with
       | true =>
        rw [h7, cond_true] at h
        cases h8 : Nat.beq t 173 with
        | true =>
         rw [h8, cond_true] at h
         have := Nat.eq_of_beq_eq_true h8
         subst this
         obtain rfl := Option.some.inj h
         exact tok173
        | false => rw [h8, cond_false] at h; cases h
       | false =>
        rw [h7, cond_false] at h
        cases h8 : Nat.blt t 175 with
        | true =>
         rw [h8, cond_true] at h
         cases h9 : Nat.beq t 174 with
         | true =>
          rw [h9, cond_true] at h
          have := Nat.eq_of_beq_eq_true h9
          subst this
          obtain rfl := Option.some.inj h
          exact tok174
         | false => rw [h9, cond_false] at h; cases h
        | false =>
         rw [h8, cond_false] at h
         cases h9 : Nat.beq t 175 with
         | true =>
          rw [h9, cond_true] at h
          have := Nat.eq_of_beq_eq_true h9
          subst this
          obtain rfl := Option.some.inj h
          exact tok175
         | false => rw [h9, cond_false] at h; cases h

theorem mixed : Try.prog.follows .mixedOrders = true := by kernel_rfl
end Go.Proofs.Ytgchhmfobkcnfaa.A
