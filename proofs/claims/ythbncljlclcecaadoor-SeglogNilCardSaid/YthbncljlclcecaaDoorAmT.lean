/- The types of the program, as our machine wants them. No condition. -/
import Derived.Test.YthbncljlclcecaaDoorProg
import Derived.Test.YthbncljlclcecaaDoorAm16
import Derived.KernelRfl
namespace Go.Proofs.YthbncljlclcecaaDoor.A
open Go
set_option linter.unusedVariables false
def ti1 : TI := { size := 1, bytes := 8, zero := .nilFunc, d := .other }
theorem tok1 : TOkAt Tryd.prog 1 ti1 := TOkAt.mk' (by kernel_rfl) (by kernel_rfl) (fun h => by cases h)
def ti2 : TI := { size := 1, bytes := 8, zero := .int .i64 0, d := .int .i64 }
theorem tok2 : TOkAt Tryd.prog 2 ti2 := TOkAt.mk' (by kernel_rfl) (by kernel_rfl) (fun h => by cases h)
def ti3 : TI := { size := 1, bytes := 8, zero := .int .i64 0, d := .int .i64 }
theorem tok3 : TOkAt Tryd.prog 3 ti3 := TOkAt.mk' (by kernel_rfl) (by kernel_rfl) (fun h => by cases h)
def ti4 : TI := { size := 1, bytes := 1, zero := .bool false, d := .bool }
theorem tok4 : TOkAt Tryd.prog 4 ti4 := TOkAt.mk' (by kernel_rfl) (by kernel_rfl) (fun h => by cases h)
def ti5 : TI := { size := 1, bytes := 1, zero := .int .u8 0, d := .int .u8 }
theorem tok5 : TOkAt Tryd.prog 5 ti5 := TOkAt.mk' (by kernel_rfl) (by kernel_rfl) (fun h => by cases h)
def ti6 : TI := { size := 1, bytes := 1, zero := .int .u8 0, d := .int .u8 }
theorem tok6 : TOkAt Tryd.prog 6 ti6 := TOkAt.mk' (by kernel_rfl) (by kernel_rfl) (fun h => by cases h)
def ti7 : TI := { size := 4, bytes := 24, zero := .agg #[.int .i64 0, .int .i64 0, .bool false, .int .u8 0], d := .strct [(0, 2, false), (1, 3, false), (2, 4, false), (3, 6, false)] }
theorem tok7 : TOkAt Tryd.prog 7 ti7 := TOkAt.mk' (by kernel_rfl) (by kernel_rfl) (fun h => by cases h)
def ti8 : TI := { size := 4, bytes := 24, zero := .agg #[.int .i64 0, .int .i64 0, .bool false, .int .u8 0], d := .strct [(0, 2, false), (1, 3, false), (2, 4, false), (3, 6, false)] }
theorem tok8 : TOkAt Tryd.prog 8 ti8 := TOkAt.mk' (by kernel_rfl) (by kernel_rfl) (fun h => by cases h)
def ti9 : TI := { size := 1, bytes := 16, zero := .string ⟨#[]⟩, d := .str }
theorem tok9 : TOkAt Tryd.prog 9 ti9 := TOkAt.mk' (by kernel_rfl) (by kernel_rfl) (fun h => by cases h)
def ti10 : TI := { size := 1, bytes := 16, zero := .string ⟨#[]⟩, d := .str }
theorem tok10 : TOkAt Tryd.prog 10 ti10 := TOkAt.mk' (by kernel_rfl) (by kernel_rfl) (fun h => by cases h)
def ti11 : TI := { size := 1, bytes := 16, zero := .string ⟨#[]⟩, d := .str }
theorem tok11 : TOkAt Tryd.prog 11 ti11 := TOkAt.mk' (by kernel_rfl) (by kernel_rfl) (fun h => by cases h)
def ti12 : TI := { size := 1, bytes := 8, zero := .int .u64 0, d := .int .u64 }
theorem tok12 : TOkAt Tryd.prog 12 ti12 := TOkAt.mk' (by kernel_rfl) (by kernel_rfl) (fun h => by cases h)
def ti13 : TI := { size := 2, bytes := 24, zero := .agg #[.string ⟨#[]⟩, .int .u64 0], d := .strct [(0, 9, false), (1, 12, false)] }
theorem tok13 : TOkAt Tryd.prog 13 ti13 := TOkAt.mk' (by kernel_rfl) (by kernel_rfl) (fun h => by cases h)
def ti14 : TI := { size := 2, bytes := 24, zero := .agg #[.string ⟨#[]⟩, .int .u64 0], d := .strct [(0, 9, false), (1, 12, false)] }
theorem tok14 : TOkAt Tryd.prog 14 ti14 := TOkAt.mk' (by kernel_rfl) (by kernel_rfl) (fun h => by cases h)
def ti15 : TI := { size := 1, bytes := 8, zero := .pointer none, d := .ptr 151 }
theorem tok15 : TOkAt Tryd.prog 15 ti15 := TOkAt.mk' (by kernel_rfl) (by kernel_rfl) (fun h => by cases h)
def ti16 : TI := { size := 1, bytes := 8, zero := .pointer none, d := .ptr 154 }
theorem tok16 : TOkAt Tryd.prog 16 ti16 := TOkAt.mk' (by kernel_rfl) (by kernel_rfl) (fun h => by cases h)
def ti17 : TI := { size := 1, bytes := 8, zero := .pointer none, d := .ptr 162 }
theorem tok17 : TOkAt Tryd.prog 17 ti17 := TOkAt.mk' (by kernel_rfl) (by kernel_rfl) (fun h => by cases h)
def ti18 : TI := { size := 1, bytes := 8, zero := .agg #[.pointer none], d := .strct [(0, 17, false)] }
theorem tok18 : TOkAt Tryd.prog 18 ti18 := TOkAt.mk' (by kernel_rfl) (by kernel_rfl) (fun h => by cases h)
def ti19 : TI := { size := 1, bytes := 8, zero := .agg #[.pointer none], d := .strct [(0, 17, false)] }
theorem tok19 : TOkAt Tryd.prog 19 ti19 := TOkAt.mk' (by kernel_rfl) (by kernel_rfl) (fun h => by cases h)
def ti20 : TI := { size := 1, bytes := 16, zero := .nilIface, d := .iface }
theorem tok20 : TOkAt Tryd.prog 20 ti20 := TOkAt.mk' (by kernel_rfl) (by kernel_rfl) (fun h => by cases h)
def ti21 : TI := { size := 1, bytes := 4, zero := .int .i32 0, d := .int .i32 }
theorem tok21 : TOkAt Tryd.prog 21 ti21 := TOkAt.mk' (by kernel_rfl) (by kernel_rfl) (fun h => by cases h)
def ti22 : TI := { size := 1, bytes := 24, zero := .slice none 0 0, d := .slice 9 }
theorem tok22 : TOkAt Tryd.prog 22 ti22 := TOkAt.mk' (by kernel_rfl) (by kernel_rfl) (fun h => by cases h)
def ti23 : TI := { size := 1, bytes := 8, zero := .nilFunc, d := .other }
theorem tok23 : TOkAt Tryd.prog 23 ti23 := TOkAt.mk' (by kernel_rfl) (by kernel_rfl) (fun h => by cases h)
def ti24 : TI := { size := 1, bytes := 8, zero := .pointer none, d := .ptr 67 }
theorem tok24 : TOkAt Tryd.prog 24 ti24 := TOkAt.mk' (by kernel_rfl) (by kernel_rfl) (fun h => by cases h)
def ti25 : TI := { size := 1, bytes := 8, zero := .int .i64 0, d := .int .i64 }
theorem tok25 : TOkAt Tryd.prog 25 ti25 := TOkAt.mk' (by kernel_rfl) (by kernel_rfl) (fun h => by cases h)
def ti27 : TI := { size := 1, bytes := 8, zero := .nilFunc, d := .other }
theorem tok27 : TOkAt Tryd.prog 27 ti27 := TOkAt.mk' (by kernel_rfl) (by kernel_rfl) (fun h => by cases h)
def ti28 : TI := { size := 1, bytes := 8, zero := .pointer none, d := .ptr 71 }
theorem tok28 : TOkAt Tryd.prog 28 ti28 := TOkAt.mk' (by kernel_rfl) (by kernel_rfl) (fun h => by cases h)
def ti30 : TI := { size := 1, bytes := 8, zero := .nilFunc, d := .other }
theorem tok30 : TOkAt Tryd.prog 30 ti30 := TOkAt.mk' (by kernel_rfl) (by kernel_rfl) (fun h => by cases h)
def ti31 : TI := { size := 1, bytes := 8, zero := .nilFunc, d := .other }
theorem tok31 : TOkAt Tryd.prog 31 ti31 := TOkAt.mk' (by kernel_rfl) (by kernel_rfl) (fun h => by cases h)
def ti32 : TI := { size := 1, bytes := 8, zero := .pointer none, d := .ptr 77 }
theorem tok32 : TOkAt Tryd.prog 32 ti32 := TOkAt.mk' (by kernel_rfl) (by kernel_rfl) (fun h => by cases h)
def ti34 : TI := { size := 1, bytes := 8, zero := .nilFunc, d := .other }
theorem tok34 : TOkAt Tryd.prog 34 ti34 := TOkAt.mk' (by kernel_rfl) (by kernel_rfl) (fun h => by cases h)
def ti35 : TI := { size := 1, bytes := 8, zero := .pointer none, d := .ptr 41 }
theorem tok35 : TOkAt Tryd.prog 35 ti35 := TOkAt.mk' (by kernel_rfl) (by kernel_rfl) (fun h => by cases h)
def ti37 : TI := { size := 1, bytes := 8, zero := .nilFunc, d := .other }
theorem tok37 : TOkAt Tryd.prog 37 ti37 := TOkAt.mk' (by kernel_rfl) (by kernel_rfl) (fun h => by cases h)
def ti38 : TI := { size := 1, bytes := 8, zero := .nilFunc, d := .other }
theorem tok38 : TOkAt Tryd.prog 38 ti38 := TOkAt.mk' (by kernel_rfl) (by kernel_rfl) (fun h => by cases h)
def ti39 : TI := { size := 1, bytes := 8, zero := .nilFunc, d := .other }
theorem tok39 : TOkAt Tryd.prog 39 ti39 := TOkAt.mk' (by kernel_rfl) (by kernel_rfl) (fun h => by cases h)
def ti40 : TI := { size := 7, bytes := 56, zero := .agg #[.pointer none, .int .i64 0, .int .i64 0, .int .i64 0, .int .i64 0, .int .i64 0, .bool false], d := .strct [(0, 28, false), (1, 3, false), (2, 3, false), (3, 3, false), (4, 3, false), (5, 3, false), (6, 4, false)] }
theorem tok40 : TOkAt Tryd.prog 40 ti40 := TOkAt.mk' (by kernel_rfl) (by kernel_rfl) (fun h => by cases h)
def ti41 : TI := { size := 7, bytes := 56, zero := .agg #[.pointer none, .int .i64 0, .int .i64 0, .int .i64 0, .int .i64 0, .int .i64 0, .bool false], d := .strct [(0, 28, false), (1, 3, false), (2, 3, false), (3, 3, false), (4, 3, false), (5, 3, false), (6, 4, false)] }
theorem tok41 : TOkAt Tryd.prog 41 ti41 := TOkAt.mk' (by kernel_rfl) (by kernel_rfl) (fun h => by cases h)
def ti42 : TI := { size := 1, bytes := 8, zero := .pointer none, d := .ptr 92 }
theorem tok42 : TOkAt Tryd.prog 42 ti42 := TOkAt.mk' (by kernel_rfl) (by kernel_rfl) (fun h => by cases h)
def ti44 : TI := { size := 1, bytes := 8, zero := .nilFunc, d := .other }
theorem tok44 : TOkAt Tryd.prog 44 ti44 := TOkAt.mk' (by kernel_rfl) (by kernel_rfl) (fun h => by cases h)
def ti46 : TI := { size := 1, bytes := 8, zero := .nilFunc, d := .other }
theorem tok46 : TOkAt Tryd.prog 46 ti46 := TOkAt.mk' (by kernel_rfl) (by kernel_rfl) (fun h => by cases h)
def ti47 : TI := { size := 1, bytes := 8, zero := .nilFunc, d := .other }
theorem tok47 : TOkAt Tryd.prog 47 ti47 := TOkAt.mk' (by kernel_rfl) (by kernel_rfl) (fun h => by cases h)
def ti48 : TI := { size := 1, bytes := 8, zero := .nilFunc, d := .other }
theorem tok48 : TOkAt Tryd.prog 48 ti48 := TOkAt.mk' (by kernel_rfl) (by kernel_rfl) (fun h => by cases h)
def ti49 : TI := { size := 1, bytes := 8, zero := .nilFunc, d := .other }
theorem tok49 : TOkAt Tryd.prog 49 ti49 := TOkAt.mk' (by kernel_rfl) (by kernel_rfl) (fun h => by cases h)
def ti50 : TI := { size := 1, bytes := 24, zero := .slice none 0 0, d := .slice 53 }
theorem tok50 : TOkAt Tryd.prog 50 ti50 := TOkAt.mk' (by kernel_rfl) (by kernel_rfl) (fun h => by cases h)
def ti51 : TI := { size := 1, bytes := 24, zero := .slice none 0 0, d := .slice 96 }
theorem tok51 : TOkAt Tryd.prog 51 ti51 := TOkAt.mk' (by kernel_rfl) (by kernel_rfl) (fun h => by cases h)
def ti52 : TI := { size := 5, bytes := 64, zero := .agg #[.int .i64 0, .string ⟨#[]⟩, .int .i64 0, .int .i64 0, .slice none 0 0], d := .strct [(0, 3, false), (1, 9, false), (2, 3, false), (3, 3, false), (4, 51, false)] }
theorem tok52 : TOkAt Tryd.prog 52 ti52 := TOkAt.mk' (by kernel_rfl) (by kernel_rfl) (fun h => by cases h)
def ti53 : TI := { size := 5, bytes := 64, zero := .agg #[.int .i64 0, .string ⟨#[]⟩, .int .i64 0, .int .i64 0, .slice none 0 0], d := .strct [(0, 3, false), (1, 9, false), (2, 3, false), (3, 3, false), (4, 51, false)] }
theorem tok53 : TOkAt Tryd.prog 53 ti53 := TOkAt.mk' (by kernel_rfl) (by kernel_rfl) (fun h => by cases h)
def ti54 : TI := { size := 1, bytes := 8, zero := .nilFunc, d := .other }
theorem tok54 : TOkAt Tryd.prog 54 ti54 := TOkAt.mk' (by kernel_rfl) (by kernel_rfl) (fun h => by cases h)
def ti55 : TI := { size := 1, bytes := 8, zero := .nilFunc, d := .other }
theorem tok55 : TOkAt Tryd.prog 55 ti55 := TOkAt.mk' (by kernel_rfl) (by kernel_rfl) (fun h => by cases h)
def ti56 : TI := { size := 1, bytes := 8, zero := .pointer none, d := .ptr 59 }
theorem tok56 : TOkAt Tryd.prog 56 ti56 := TOkAt.mk' (by kernel_rfl) (by kernel_rfl) (fun h => by cases h)
def ti57 : TI := { size := 1, bytes := 8, zero := .pointer none, d := .ptr 110 }
theorem tok57 : TOkAt Tryd.prog 57 ti57 := TOkAt.mk' (by kernel_rfl) (by kernel_rfl) (fun h => by cases h)
def ti58 : TI := { size := 6, bytes := 48, zero := .agg #[.pointer none, .pointer none, .pointer none, .pointer none, .pointer none, .pointer none], d := .strct [(0, 24, false), (1, 32, false), (2, 42, false), (3, 28, false), (4, 35, false), (5, 57, false)] }
theorem tok58 : TOkAt Tryd.prog 58 ti58 := TOkAt.mk' (by kernel_rfl) (by kernel_rfl) (fun h => by cases h)
def ti59 : TI := { size := 6, bytes := 48, zero := .agg #[.pointer none, .pointer none, .pointer none, .pointer none, .pointer none, .pointer none], d := .strct [(0, 24, false), (1, 32, false), (2, 42, false), (3, 28, false), (4, 35, false), (5, 57, false)] }
theorem tok59 : TOkAt Tryd.prog 59 ti59 := TOkAt.mk' (by kernel_rfl) (by kernel_rfl) (fun h => by cases h)
def ti60 : TI := { size := 1, bytes := 8, zero := .nilFunc, d := .other }
theorem tok60 : TOkAt Tryd.prog 60 ti60 := TOkAt.mk' (by kernel_rfl) (by kernel_rfl) (fun h => by cases h)
def ti61 : TI := { size := 1, bytes := 8, zero := .nilFunc, d := .other }
theorem tok61 : TOkAt Tryd.prog 61 ti61 := TOkAt.mk' (by kernel_rfl) (by kernel_rfl) (fun h => by cases h)
def ti63 : TI := { size := 1, bytes := 8, zero := .nilFunc, d := .other }
theorem tok63 : TOkAt Tryd.prog 63 ti63 := TOkAt.mk' (by kernel_rfl) (by kernel_rfl) (fun h => by cases h)
def ti64 : TI := { size := 1, bytes := 24, zero := .slice none 0 0, d := .slice 22 }
theorem tok64 : TOkAt Tryd.prog 64 ti64 := TOkAt.mk' (by kernel_rfl) (by kernel_rfl) (fun h => by cases h)
def ti65 : TI := { size := 1, bytes := 24, zero := .slice none 0 0, d := .slice 68 }
theorem tok65 : TOkAt Tryd.prog 65 ti65 := TOkAt.mk' (by kernel_rfl) (by kernel_rfl) (fun h => by cases h)
def ti66 : TI := { size := 4, bytes := 64, zero := .agg #[.bool false, .int .i64 0, .slice none 0 0, .slice none 0 0], d := .strct [(0, 4, false), (1, 3, false), (2, 64, false), (3, 65, false)] }
theorem tok66 : TOkAt Tryd.prog 66 ti66 := TOkAt.mk' (by kernel_rfl) (by kernel_rfl) (fun h => by cases h)
def ti67 : TI := { size := 4, bytes := 64, zero := .agg #[.bool false, .int .i64 0, .slice none 0 0, .slice none 0 0], d := .strct [(0, 4, false), (1, 3, false), (2, 64, false), (3, 65, false)] }
theorem tok67 : TOkAt Tryd.prog 67 ti67 := TOkAt.mk' (by kernel_rfl) (by kernel_rfl) (fun h => by cases h)
def ti68 : TI := { size := 1, bytes := 8, zero := .map none, d := .map 3 9 }
theorem tok68 : TOkAt Tryd.prog 68 ti68 := TOkAt.mk' (by kernel_rfl) (by kernel_rfl) (fun h => by cases h)
def ti69 : TI := { size := 1, bytes := 24, zero := .slice none 0 0, d := .slice 75 }
theorem tok69 : TOkAt Tryd.prog 69 ti69 := TOkAt.mk' (by kernel_rfl) (by kernel_rfl) (fun h => by cases h)
def ti70 : TI := { size := 4, bytes := 48, zero := .agg #[.bool false, .int .i64 0, .int .i64 0, .slice none 0 0], d := .strct [(0, 4, false), (1, 3, false), (2, 3, false), (3, 69, false)] }
theorem tok70 : TOkAt Tryd.prog 70 ti70 := TOkAt.mk' (by kernel_rfl) (by kernel_rfl) (fun h => by cases h)
def ti71 : TI := { size := 4, bytes := 48, zero := .agg #[.bool false, .int .i64 0, .int .i64 0, .slice none 0 0], d := .strct [(0, 4, false), (1, 3, false), (2, 3, false), (3, 69, false)] }
theorem tok71 : TOkAt Tryd.prog 71 ti71 := TOkAt.mk' (by kernel_rfl) (by kernel_rfl) (fun h => by cases h)
def ti72 : TI := { size := 1, bytes := 8, zero := .nilFunc, d := .other }
theorem tok72 : TOkAt Tryd.prog 72 ti72 := TOkAt.mk' (by kernel_rfl) (by kernel_rfl) (fun h => by cases h)
def ti73 : TI := { size := 1, bytes := 8, zero := .nilFunc, d := .other }
theorem tok73 : TOkAt Tryd.prog 73 ti73 := TOkAt.mk' (by kernel_rfl) (by kernel_rfl) (fun h => by cases h)
def ti74 : TI := { size := 3, bytes := 40, zero := .agg #[.string ⟨#[]⟩, .string ⟨#[]⟩, .bool false], d := .strct [(0, 9, false), (1, 9, false), (2, 4, false)], eqOk := true }
theorem tok74 : TOkAt Tryd.prog 74 ti74 := TOkAt.mk' (by kernel_rfl) (by kernel_rfl) (fun _ => ⟨by kernel_rfl, by kernel_rfl⟩)
def ti75 : TI := { size := 3, bytes := 40, zero := .agg #[.string ⟨#[]⟩, .string ⟨#[]⟩, .bool false], d := .strct [(0, 9, false), (1, 9, false), (2, 4, false)], eqOk := true }
theorem tok75 : TOkAt Tryd.prog 75 ti75 := TOkAt.mk' (by kernel_rfl) (by kernel_rfl) (fun _ => ⟨by kernel_rfl, by kernel_rfl⟩)
def ti76 : TI := { size := 7, bytes := 56, zero := .agg #[.pointer none, .int .i64 0, .int .i64 0, .int .i64 0, .int .i64 0, .int .i64 0, .pointer none], d := .strct [(0, 24, false), (1, 3, false), (2, 3, false), (3, 3, false), (4, 3, false), (5, 3, false), (6, 42, false)] }
theorem tok76 : TOkAt Tryd.prog 76 ti76 := TOkAt.mk' (by kernel_rfl) (by kernel_rfl) (fun h => by cases h)
def ti77 : TI := { size := 7, bytes := 56, zero := .agg #[.pointer none, .int .i64 0, .int .i64 0, .int .i64 0, .int .i64 0, .int .i64 0, .pointer none], d := .strct [(0, 24, false), (1, 3, false), (2, 3, false), (3, 3, false), (4, 3, false), (5, 3, false), (6, 42, false)] }
theorem tok77 : TOkAt Tryd.prog 77 ti77 := TOkAt.mk' (by kernel_rfl) (by kernel_rfl) (fun h => by cases h)
def ti78 : TI := { size := 1, bytes := 24, zero := .slice none 0 0, d := .slice 84 }
theorem tok78 : TOkAt Tryd.prog 78 ti78 := TOkAt.mk' (by kernel_rfl) (by kernel_rfl) (fun h => by cases h)
def ti79 : TI := { size := 1, bytes := 24, zero := .slice none 0 0, d := .slice 4 }
theorem tok79 : TOkAt Tryd.prog 79 ti79 := TOkAt.mk' (by kernel_rfl) (by kernel_rfl) (fun h => by cases h)
def ti80 : TI := { size := 4, bytes := 80, zero := .agg #[.slice none 0 0, .slice none 0 0, .slice none 0 0, .int .i64 0], d := .strct [(0, 78, false), (1, 22, false), (2, 79, false), (3, 3, false)] }
theorem tok80 : TOkAt Tryd.prog 80 ti80 := TOkAt.mk' (by kernel_rfl) (by kernel_rfl) (fun h => by cases h)
def ti81 : TI := { size := 4, bytes := 80, zero := .agg #[.slice none 0 0, .slice none 0 0, .slice none 0 0, .int .i64 0], d := .strct [(0, 78, false), (1, 22, false), (2, 79, false), (3, 3, false)] }
theorem tok81 : TOkAt Tryd.prog 81 ti81 := TOkAt.mk' (by kernel_rfl) (by kernel_rfl) (fun h => by cases h)
def ti82 : TI := { size := 1, bytes := 8, zero := .nilFunc, d := .other }
theorem tok82 : TOkAt Tryd.prog 82 ti82 := TOkAt.mk' (by kernel_rfl) (by kernel_rfl) (fun h => by cases h)
def ti83 : TI := { size := 5, bytes := 40, zero := .agg #[.int .i64 0, .int .i64 0, .int .i64 0, .int .i64 0, .int .i64 0], d := .strct [(0, 3, false), (1, 3, false), (2, 3, false), (3, 3, false), (4, 3, false)], eqOk := true }
theorem tok83 : TOkAt Tryd.prog 83 ti83 := TOkAt.mk' (by kernel_rfl) (by kernel_rfl) (fun _ => ⟨by kernel_rfl, by kernel_rfl⟩)
def ti84 : TI := { size := 5, bytes := 40, zero := .agg #[.int .i64 0, .int .i64 0, .int .i64 0, .int .i64 0, .int .i64 0], d := .strct [(0, 3, false), (1, 3, false), (2, 3, false), (3, 3, false), (4, 3, false)], eqOk := true }
theorem tok84 : TOkAt Tryd.prog 84 ti84 := TOkAt.mk' (by kernel_rfl) (by kernel_rfl) (fun _ => ⟨by kernel_rfl, by kernel_rfl⟩)
def ti86 : TI := { size := 1, bytes := 8, zero := .nilFunc, d := .other }
theorem tok86 : TOkAt Tryd.prog 86 ti86 := TOkAt.mk' (by kernel_rfl) (by kernel_rfl) (fun h => by cases h)
def ti87 : TI := { size := 1, bytes := 8, zero := .nilFunc, d := .other }
theorem tok87 : TOkAt Tryd.prog 87 ti87 := TOkAt.mk' (by kernel_rfl) (by kernel_rfl) (fun h => by cases h)
def ti89 : TI := { size := 1, bytes := 8, zero := .nilFunc, d := .other }
theorem tok89 : TOkAt Tryd.prog 89 ti89 := TOkAt.mk' (by kernel_rfl) (by kernel_rfl) (fun h => by cases h)
def ti90 : TI := { size := 1, bytes := 8, zero := .nilFunc, d := .other }
theorem tok90 : TOkAt Tryd.prog 90 ti90 := TOkAt.mk' (by kernel_rfl) (by kernel_rfl) (fun h => by cases h)
def ti91 : TI := { size := 7, bytes := 72, zero := .agg #[.pointer none, .int .i64 0, .int .i64 0, .int .i64 0, .slice none 0 0, .int .i64 0, .bool false], d := .strct [(0, 32, false), (1, 3, false), (2, 3, false), (3, 3, false), (4, 22, false), (5, 3, false), (6, 4, false)] }
theorem tok91 : TOkAt Tryd.prog 91 ti91 := TOkAt.mk' (by kernel_rfl) (by kernel_rfl) (fun h => by cases h)
def ti92 : TI := { size := 7, bytes := 72, zero := .agg #[.pointer none, .int .i64 0, .int .i64 0, .int .i64 0, .slice none 0 0, .int .i64 0, .bool false], d := .strct [(0, 32, false), (1, 3, false), (2, 3, false), (3, 3, false), (4, 22, false), (5, 3, false), (6, 4, false)] }
theorem tok92 : TOkAt Tryd.prog 92 ti92 := TOkAt.mk' (by kernel_rfl) (by kernel_rfl) (fun h => by cases h)
def ti93 : TI := { size := 1, bytes := 8, zero := .nilFunc, d := .other }
theorem tok93 : TOkAt Tryd.prog 93 ti93 := TOkAt.mk' (by kernel_rfl) (by kernel_rfl) (fun h => by cases h)
def ti94 : TI := { size := 1, bytes := 8, zero := .nilFunc, d := .other }
theorem tok94 : TOkAt Tryd.prog 94 ti94 := TOkAt.mk' (by kernel_rfl) (by kernel_rfl) (fun h => by cases h)
def ti95 : TI := { size := 2, bytes := 16, zero := .agg #[.int .i64 0, .int .i64 0], d := .strct [(0, 3, false), (1, 3, false)], eqOk := true }
theorem tok95 : TOkAt Tryd.prog 95 ti95 := TOkAt.mk' (by kernel_rfl) (by kernel_rfl) (fun _ => ⟨by kernel_rfl, by kernel_rfl⟩)
def ti96 : TI := { size := 2, bytes := 16, zero := .agg #[.int .i64 0, .int .i64 0], d := .strct [(0, 3, false), (1, 3, false)], eqOk := true }
theorem tok96 : TOkAt Tryd.prog 96 ti96 := TOkAt.mk' (by kernel_rfl) (by kernel_rfl) (fun _ => ⟨by kernel_rfl, by kernel_rfl⟩)
def ti99 : TI := { size := 1, bytes := 8, zero := .nilFunc, d := .other }
theorem tok99 : TOkAt Tryd.prog 99 ti99 := TOkAt.mk' (by kernel_rfl) (by kernel_rfl) (fun h => by cases h)
def ti101 : TI := { size := 1, bytes := 8, zero := .nilFunc, d := .other }
theorem tok101 : TOkAt Tryd.prog 101 ti101 := TOkAt.mk' (by kernel_rfl) (by kernel_rfl) (fun h => by cases h)
def ti103 : TI := { size := 1, bytes := 8, zero := .nilFunc, d := .other }
theorem tok103 : TOkAt Tryd.prog 103 ti103 := TOkAt.mk' (by kernel_rfl) (by kernel_rfl) (fun h => by cases h)
def ti105 : TI := { size := 1, bytes := 8, zero := .nilFunc, d := .other }
theorem tok105 : TOkAt Tryd.prog 105 ti105 := TOkAt.mk' (by kernel_rfl) (by kernel_rfl) (fun h => by cases h)
def ti106 : TI := { size := 1, bytes := 8, zero := .nilFunc, d := .other }
theorem tok106 : TOkAt Tryd.prog 106 ti106 := TOkAt.mk' (by kernel_rfl) (by kernel_rfl) (fun h => by cases h)
def ti107 : TI := { size := 1, bytes := 8, zero := .nilFunc, d := .other }
theorem tok107 : TOkAt Tryd.prog 107 ti107 := TOkAt.mk' (by kernel_rfl) (by kernel_rfl) (fun h => by cases h)
def ti108 : TI := { size := 1, bytes := 8, zero := .nilFunc, d := .other }
theorem tok108 : TOkAt Tryd.prog 108 ti108 := TOkAt.mk' (by kernel_rfl) (by kernel_rfl) (fun h => by cases h)
def ti109 : TI := { size := 4, bytes := 48, zero := .agg #[.pointer none, .bool false, .slice none 0 0, .int .i64 0], d := .strct [(0, 35, false), (1, 4, false), (2, 22, false), (3, 3, false)] }
theorem tok109 : TOkAt Tryd.prog 109 ti109 := TOkAt.mk' (by kernel_rfl) (by kernel_rfl) (fun h => by cases h)
def ti110 : TI := { size := 4, bytes := 48, zero := .agg #[.pointer none, .bool false, .slice none 0 0, .int .i64 0], d := .strct [(0, 35, false), (1, 4, false), (2, 22, false), (3, 3, false)] }
theorem tok110 : TOkAt Tryd.prog 110 ti110 := TOkAt.mk' (by kernel_rfl) (by kernel_rfl) (fun h => by cases h)
def ti111 : TI := { size := 1, bytes := 8, zero := .nilFunc, d := .other }
theorem tok111 : TOkAt Tryd.prog 111 ti111 := TOkAt.mk' (by kernel_rfl) (by kernel_rfl) (fun h => by cases h)
def ti112 : TI := { size := 1, bytes := 8, zero := .nilFunc, d := .other }
theorem tok112 : TOkAt Tryd.prog 112 ti112 := TOkAt.mk' (by kernel_rfl) (by kernel_rfl) (fun h => by cases h)
def ti113 : TI := { size := 1, bytes := 8, zero := .nilFunc, d := .other }
theorem tok113 : TOkAt Tryd.prog 113 ti113 := TOkAt.mk' (by kernel_rfl) (by kernel_rfl) (fun h => by cases h)
def ti114 : TI := { size := 1, bytes := 8, zero := .nilFunc, d := .other }
theorem tok114 : TOkAt Tryd.prog 114 ti114 := TOkAt.mk' (by kernel_rfl) (by kernel_rfl) (fun h => by cases h)
def ti115 : TI := { size := 1, bytes := 8, zero := .pointer none, d := .ptr 118 }
theorem tok115 : TOkAt Tryd.prog 115 ti115 := TOkAt.mk' (by kernel_rfl) (by kernel_rfl) (fun h => by cases h)
def ti116 : TI := { size := 1, bytes := 24, zero := .slice none 0 0, d := .slice 5 }
theorem tok116 : TOkAt Tryd.prog 116 ti116 := TOkAt.mk' (by kernel_rfl) (by kernel_rfl) (fun h => by cases h)
def ti117 : TI := { size := 2, bytes := 32, zero := .agg #[.pointer none, .slice none 0 0], d := .strct [(0, 115, false), (1, 116, false)] }
theorem tok117 : TOkAt Tryd.prog 117 ti117 := TOkAt.mk' (by kernel_rfl) (by kernel_rfl) (fun h => by cases h)
def ti118 : TI := { size := 2, bytes := 32, zero := .agg #[.pointer none, .slice none 0 0], d := .strct [(0, 115, false), (1, 116, false)] }
theorem tok118 : TOkAt Tryd.prog 118 ti118 := TOkAt.mk' (by kernel_rfl) (by kernel_rfl) (fun h => by cases h)
def ti119 : TI := { size := 1, bytes := 8, zero := .nilFunc, d := .other }
theorem tok119 : TOkAt Tryd.prog 119 ti119 := TOkAt.mk' (by kernel_rfl) (by kernel_rfl) (fun h => by cases h)
def ti120 : TI := { size := 1, bytes := 16, zero := .nilIface, d := .iface }
theorem tok120 : TOkAt Tryd.prog 120 ti120 := TOkAt.mk' (by kernel_rfl) (by kernel_rfl) (fun h => by cases h)
def ti121 : TI := { size := 1, bytes := 16, zero := .nilIface, d := .iface }
theorem tok121 : TOkAt Tryd.prog 121 ti121 := TOkAt.mk' (by kernel_rfl) (by kernel_rfl) (fun h => by cases h)
def ti123 : TI := { size := 1, bytes := 8, zero := .nilFunc, d := .other }
theorem tok123 : TOkAt Tryd.prog 123 ti123 := TOkAt.mk' (by kernel_rfl) (by kernel_rfl) (fun h => by cases h)
def ti124 : TI := { size := 1, bytes := 8, zero := .nilFunc, d := .other }
theorem tok124 : TOkAt Tryd.prog 124 ti124 := TOkAt.mk' (by kernel_rfl) (by kernel_rfl) (fun h => by cases h)
def ti125 : TI := { size := 1, bytes := 8, zero := .nilFunc, d := .other }
theorem tok125 : TOkAt Tryd.prog 125 ti125 := TOkAt.mk' (by kernel_rfl) (by kernel_rfl) (fun h => by cases h)
def ti126 : TI := { size := 1, bytes := 8, zero := .int .u64 0, d := .int .u64 }
theorem tok126 : TOkAt Tryd.prog 126 ti126 := TOkAt.mk' (by kernel_rfl) (by kernel_rfl) (fun h => by cases h)
def ti127 : TI := { size := 1, bytes := 8, zero := .nilFunc, d := .other }
theorem tok127 : TOkAt Tryd.prog 127 ti127 := TOkAt.mk' (by kernel_rfl) (by kernel_rfl) (fun h => by cases h)
def ti128 : TI := { size := 1, bytes := 8, zero := .nilFunc, d := .other }
theorem tok128 : TOkAt Tryd.prog 128 ti128 := TOkAt.mk' (by kernel_rfl) (by kernel_rfl) (fun h => by cases h)
def ti132 : TI := { size := 1, bytes := 8, zero := .nilFunc, d := .other }
theorem tok132 : TOkAt Tryd.prog 132 ti132 := TOkAt.mk' (by kernel_rfl) (by kernel_rfl) (fun h => by cases h)
def ti133 : TI := { size := 1, bytes := 8, zero := .nilFunc, d := .other }
theorem tok133 : TOkAt Tryd.prog 133 ti133 := TOkAt.mk' (by kernel_rfl) (by kernel_rfl) (fun h => by cases h)
def ti134 : TI := { size := 1, bytes := 8, zero := .pointer none, d := .ptr 130 }
theorem tok134 : TOkAt Tryd.prog 134 ti134 := TOkAt.mk' (by kernel_rfl) (by kernel_rfl) (fun h => by cases h)
def ti135 : TI := { size := 1, bytes := 8, zero := .pointer none, d := .ptr 5 }
theorem tok135 : TOkAt Tryd.prog 135 ti135 := TOkAt.mk' (by kernel_rfl) (by kernel_rfl) (fun h => by cases h)
def ti136 : TI := { size := 1, bytes := 8, zero := .nilFunc, d := .other }
theorem tok136 : TOkAt Tryd.prog 136 ti136 := TOkAt.mk' (by kernel_rfl) (by kernel_rfl) (fun h => by cases h)
def ti138 : TI := { size := 1, bytes := 8, zero := .nilFunc, d := .other }
theorem tok138 : TOkAt Tryd.prog 138 ti138 := TOkAt.mk' (by kernel_rfl) (by kernel_rfl) (fun h => by cases h)
def ti139 : TI := { size := 1, bytes := 8, zero := .nilFunc, d := .other }
theorem tok139 : TOkAt Tryd.prog 139 ti139 := TOkAt.mk' (by kernel_rfl) (by kernel_rfl) (fun h => by cases h)
def ti141 : TI := { size := 1, bytes := 8, zero := .nilFunc, d := .other }
theorem tok141 : TOkAt Tryd.prog 141 ti141 := TOkAt.mk' (by kernel_rfl) (by kernel_rfl) (fun h => by cases h)
def ti142 : TI := { size := 1, bytes := 8, zero := .nilFunc, d := .other }
theorem tok142 : TOkAt Tryd.prog 142 ti142 := TOkAt.mk' (by kernel_rfl) (by kernel_rfl) (fun h => by cases h)
def ti144 : TI := { size := 2, bytes := 2, zero := .agg #[.int .u8 0, .int .u8 0], d := .strct [(0, 5, false), (1, 5, false)] }
theorem tok144 : TOkAt Tryd.prog 144 ti144 := TOkAt.mk' (by kernel_rfl) (by kernel_rfl) (fun h => by cases h)
def ti145 : TI := { size := 2, bytes := 2, zero := .agg #[.int .u8 0, .int .u8 0], d := .strct [(0, 5, false), (1, 5, false)] }
theorem tok145 : TOkAt Tryd.prog 145 ti145 := TOkAt.mk' (by kernel_rfl) (by kernel_rfl) (fun h => by cases h)
def ti146 : TI := { size := 32, bytes := 32, zero := .agg #[.int .u8 0, .int .u8 0, .int .u8 0, .int .u8 0, .int .u8 0, .int .u8 0, .int .u8 0, .int .u8 0, .int .u8 0, .int .u8 0, .int .u8 0, .int .u8 0, .int .u8 0, .int .u8 0, .int .u8 0, .int .u8 0, .int .u8 0, .int .u8 0, .int .u8 0, .int .u8 0, .int .u8 0, .int .u8 0, .int .u8 0, .int .u8 0, .int .u8 0, .int .u8 0, .int .u8 0, .int .u8 0, .int .u8 0, .int .u8 0, .int .u8 0, .int .u8 0], d := .arr 16 145 }
theorem tok146 : TOkAt Tryd.prog 146 ti146 := TOkAt.mk' (by kernel_rfl) (by kernel_rfl) (fun h => by cases h)
def ti147 : TI := { size := 1, bytes := 8, zero := .nilFunc, d := .other }
theorem tok147 : TOkAt Tryd.prog 147 ti147 := TOkAt.mk' (by kernel_rfl) (by kernel_rfl) (fun h => by cases h)
def ti148 : TI := { size := 1, bytes := 8, zero := .nilFunc, d := .other }
theorem tok148 : TOkAt Tryd.prog 148 ti148 := TOkAt.mk' (by kernel_rfl) (by kernel_rfl) (fun h => by cases h)
def ti149 : TI := { size := 1, bytes := 8, zero := .nilFunc, d := .other }
theorem tok149 : TOkAt Tryd.prog 149 ti149 := TOkAt.mk' (by kernel_rfl) (by kernel_rfl) (fun h => by cases h)
def ti150 : TI := { size := 4, bytes := 40, zero := .agg #[.pointer none, .pointer none, .pointer none, .string ⟨#[]⟩], d := .strct [(0, 17, false), (1, 17, false), (2, 17, false), (3, 9, false)] }
theorem tok150 : TOkAt Tryd.prog 150 ti150 := TOkAt.mk' (by kernel_rfl) (by kernel_rfl) (fun h => by cases h)
def ti151 : TI := { size := 4, bytes := 40, zero := .agg #[.pointer none, .pointer none, .pointer none, .string ⟨#[]⟩], d := .strct [(0, 17, false), (1, 17, false), (2, 17, false), (3, 9, false)] }
theorem tok151 : TOkAt Tryd.prog 151 ti151 := TOkAt.mk' (by kernel_rfl) (by kernel_rfl) (fun h => by cases h)
def ti152 : TI := { size := 0, bytes := 0, zero := .agg #[], d := .arr 0 16 }
theorem tok152 : TOkAt Tryd.prog 152 ti152 := TOkAt.mk' (by kernel_rfl) (by kernel_rfl) (fun h => by cases h)
def ti153 : TI := { size := 0, bytes := 0, zero := .agg #[], d := .strct [(0, 152, true)] }
theorem tok153 : TOkAt Tryd.prog 153 ti153 := TOkAt.mk' (by kernel_rfl) (by kernel_rfl) (fun h => by cases h)
def ti154 : TI := { size := 0, bytes := 0, zero := .agg #[], d := .strct [(0, 152, true)] }
theorem tok154 : TOkAt Tryd.prog 154 ti154 := TOkAt.mk' (by kernel_rfl) (by kernel_rfl) (fun h => by cases h)
def ti155 : TI := { size := 1, bytes := 4, zero := .int .u32 0, d := .int .u32 }
theorem tok155 : TOkAt Tryd.prog 155 ti155 := TOkAt.mk' (by kernel_rfl) (by kernel_rfl) (fun h => by cases h)
def ti156 : TI := { size := 1, bytes := 1, zero := .int .u8 0, d := .int .u8 }
theorem tok156 : TOkAt Tryd.prog 156 ti156 := TOkAt.mk' (by kernel_rfl) (by kernel_rfl) (fun h => by cases h)
def ti157 : TI := { size := 1, bytes := 1, zero := .int .u8 0, d := .int .u8 }
theorem tok157 : TOkAt Tryd.prog 157 ti157 := TOkAt.mk' (by kernel_rfl) (by kernel_rfl) (fun h => by cases h)
def ti158 : TI := { size := 1, bytes := 8, zero := .nilFunc, d := .other }
theorem tok158 : TOkAt Tryd.prog 158 ti158 := TOkAt.mk' (by kernel_rfl) (by kernel_rfl) (fun h => by cases h)
def ti159 : TI := { size := 1, bytes := 4, zero := .int .i32 0, d := .int .i32 }
theorem tok159 : TOkAt Tryd.prog 159 ti159 := TOkAt.mk' (by kernel_rfl) (by kernel_rfl) (fun h => by cases h)
def ti160 : TI := { size := 1, bytes := 4, zero := .int .i32 0, d := .int .i32 }
theorem tok160 : TOkAt Tryd.prog 160 ti160 := TOkAt.mk' (by kernel_rfl) (by kernel_rfl) (fun h => by cases h)
def ti161 : TI := { size := 11, bytes := 48, zero := .agg #[.int .u64 0, .int .u64 0, .int .u32 0, .int .u8 0, .int .u8 0, .int .u8 0, .int .u8 0, .nilFunc, .pointer none, .int .i32 0, .int .i32 0], d := .strct [(0, 12, false), (1, 12, false), (2, 155, false), (3, 156, false), (4, 5, false), (5, 5, false), (6, 157, false), (7, 158, false), (8, 135, false), (9, 159, false), (10, 160, false)] }
theorem tok161 : TOkAt Tryd.prog 161 ti161 := TOkAt.mk' (by kernel_rfl) (by kernel_rfl) (fun h => by cases h)
def ti162 : TI := { size := 11, bytes := 48, zero := .agg #[.int .u64 0, .int .u64 0, .int .u32 0, .int .u8 0, .int .u8 0, .int .u8 0, .int .u8 0, .nilFunc, .pointer none, .int .i32 0, .int .i32 0], d := .strct [(0, 12, false), (1, 12, false), (2, 155, false), (3, 156, false), (4, 5, false), (5, 5, false), (6, 157, false), (7, 158, false), (8, 135, false), (9, 159, false), (10, 160, false)] }
theorem tok162 : TOkAt Tryd.prog 162 ti162 := TOkAt.mk' (by kernel_rfl) (by kernel_rfl) (fun h => by cases h)
def T : Tab := fun t => bif Nat.blt t 78 then (bif Nat.blt t 40 then (bif Nat.blt t 18 then (bif Nat.blt t 9 then (bif Nat.blt t 5 then (bif Nat.blt t 3 then (bif Nat.blt t 2 then (bif Nat.beq t 1 then some ti1 else none) else (bif Nat.beq t 2 then some ti2 else none)) else (bif Nat.blt t 4 then (bif Nat.beq t 3 then some ti3 else none) else (bif Nat.beq t 4 then some ti4 else none))) else (bif Nat.blt t 7 then (bif Nat.blt t 6 then (bif Nat.beq t 5 then some ti5 else none) else (bif Nat.beq t 6 then some ti6 else none)) else (bif Nat.blt t 8 then (bif Nat.beq t 7 then some ti7 else none) else (bif Nat.beq t 8 then some ti8 else none)))) else (bif Nat.blt t 13 then (bif Nat.blt t 11 then (bif Nat.blt t 10 then (bif Nat.beq t 9 then some ti9 else none) else (bif Nat.beq t 10 then some ti10 else none)) else (bif Nat.blt t 12 then (bif Nat.beq t 11 then some ti11 else none) else (bif Nat.beq t 12 then some ti12 else none))) else (bif Nat.blt t 15 then (bif Nat.blt t 14 then (bif Nat.beq t 13 then some ti13 else none) else (bif Nat.beq t 14 then some ti14 else none)) else (bif Nat.blt t 16 then (bif Nat.beq t 15 then some ti15 else none) else (bif Nat.blt t 17 then (bif Nat.beq t 16 then some ti16 else none) else (bif Nat.beq t 17 then some ti17 else none)))))) else (bif Nat.blt t 28 then (bif Nat.blt t 22 then (bif Nat.blt t 20 then (bif Nat.blt t 19 then (bif Nat.beq t 18 then some ti18 else none) else (bif Nat.beq t 19 then some ti19 else none)) else (bif Nat.blt t 21 then (bif Nat.beq t 20 then some ti20 else none) else (bif Nat.beq t 21 then some ti21 else none))) else (bif Nat.blt t 24 then (bif Nat.blt t 23 then (bif Nat.beq t 22 then some ti22 else none) else (bif Nat.beq t 23 then some ti23 else none)) else (bif Nat.blt t 25 then (bif Nat.beq t 24 then some ti24 else none) else (bif Nat.blt t 27 then (bif Nat.beq t 25 then some ti25 else none) else (bif Nat.beq t 27 then some ti27 else none))))) else (bif Nat.blt t 34 then (bif Nat.blt t 31 then (bif Nat.blt t 30 then (bif Nat.beq t 28 then some ti28 else none) else (bif Nat.beq t 30 then some ti30 else none)) else (bif Nat.blt t 32 then (bif Nat.beq t 31 then some ti31 else none) else (bif Nat.beq t 32 then some ti32 else none))) else (bif Nat.blt t 37 then (bif Nat.blt t 35 then (bif Nat.beq t 34 then some ti34 else none) else (bif Nat.beq t 35 then some ti35 else none)) else (bif Nat.blt t 38 then (bif Nat.beq t 37 then some ti37 else none) else (bif Nat.blt t 39 then (bif Nat.beq t 38 then some ti38 else none) else (bif Nat.beq t 39 then some ti39 else none))))))) else (bif Nat.blt t 59 then (bif Nat.blt t 50 then (bif Nat.blt t 46 then (bif Nat.blt t 42 then (bif Nat.blt t 41 then (bif Nat.beq t 40 then some ti40 else none) else (bif Nat.beq t 41 then some ti41 else none)) else (bif Nat.blt t 44 then (bif Nat.beq t 42 then some ti42 else none) else (bif Nat.beq t 44 then some ti44 else none))) else (bif Nat.blt t 48 then (bif Nat.blt t 47 then (bif Nat.beq t 46 then some ti46 else none) else (bif Nat.beq t 47 then some ti47 else none)) else (bif Nat.blt t 49 then (bif Nat.beq t 48 then some ti48 else none) else (bif Nat.beq t 49 then some ti49 else none)))) else (bif Nat.blt t 54 then (bif Nat.blt t 52 then (bif Nat.blt t 51 then (bif Nat.beq t 50 then some ti50 else none) else (bif Nat.beq t 51 then some ti51 else none)) else (bif Nat.blt t 53 then (bif Nat.beq t 52 then some ti52 else none) else (bif Nat.beq t 53 then some ti53 else none))) else (bif Nat.blt t 56 then (bif Nat.blt t 55 then (bif Nat.beq t 54 then some ti54 else none) else (bif Nat.beq t 55 then some ti55 else none)) else (bif Nat.blt t 57 then (bif Nat.beq t 56 then some ti56 else none) else (bif Nat.blt t 58 then (bif Nat.beq t 57 then some ti57 else none) else (bif Nat.beq t 58 then some ti58 else none)))))) else (bif Nat.blt t 69 then (bif Nat.blt t 64 then (bif Nat.blt t 61 then (bif Nat.blt t 60 then (bif Nat.beq t 59 then some ti59 else none) else (bif Nat.beq t 60 then some ti60 else none)) else (bif Nat.blt t 63 then (bif Nat.beq t 61 then some ti61 else none) else (bif Nat.beq t 63 then some ti63 else none))) else (bif Nat.blt t 66 then (bif Nat.blt t 65 then (bif Nat.beq t 64 then some ti64 else none) else (bif Nat.beq t 65 then some ti65 else none)) else (bif Nat.blt t 67 then (bif Nat.beq t 66 then some ti66 else none) else (bif Nat.blt t 68 then (bif Nat.beq t 67 then some ti67 else none) else (bif Nat.beq t 68 then some ti68 else none))))) else (bif Nat.blt t 73 then (bif Nat.blt t 71 then (bif Nat.blt t 70 then (bif Nat.beq t 69 then some ti69 else none) else (bif Nat.beq t 70 then some ti70 else none)) else (bif Nat.blt t 72 then (bif Nat.beq t 71 then some ti71 else none) else (bif Nat.beq t 72 then some ti72 else none))) else (bif Nat.blt t 75 then (bif Nat.blt t 74 then (bif Nat.beq t 73 then some ti73 else none) else (bif Nat.beq t 74 then some ti74 else none)) else (bif Nat.blt t 76 then (bif Nat.beq t 75 then some ti75 else none) else (bif Nat.blt t 77 then (bif Nat.beq t 76 then some ti76 else none) else (bif Nat.beq t 77 then some ti77 else none)))))))) else (bif Nat.blt t 120 then (bif Nat.blt t 99 then (bif Nat.blt t 87 then (bif Nat.blt t 82 then (bif Nat.blt t 80 then (bif Nat.blt t 79 then (bif Nat.beq t 78 then some ti78 else none) else (bif Nat.beq t 79 then some ti79 else none)) else (bif Nat.blt t 81 then (bif Nat.beq t 80 then some ti80 else none) else (bif Nat.beq t 81 then some ti81 else none))) else (bif Nat.blt t 84 then (bif Nat.blt t 83 then (bif Nat.beq t 82 then some ti82 else none) else (bif Nat.beq t 83 then some ti83 else none)) else (bif Nat.blt t 86 then (bif Nat.beq t 84 then some ti84 else none) else (bif Nat.beq t 86 then some ti86 else none)))) else (bif Nat.blt t 92 then (bif Nat.blt t 90 then (bif Nat.blt t 89 then (bif Nat.beq t 87 then some ti87 else none) else (bif Nat.beq t 89 then some ti89 else none)) else (bif Nat.blt t 91 then (bif Nat.beq t 90 then some ti90 else none) else (bif Nat.beq t 91 then some ti91 else none))) else (bif Nat.blt t 94 then (bif Nat.blt t 93 then (bif Nat.beq t 92 then some ti92 else none) else (bif Nat.beq t 93 then some ti93 else none)) else (bif Nat.blt t 95 then (bif Nat.beq t 94 then some ti94 else none) else (bif Nat.blt t 96 then (bif Nat.beq t 95 then some ti95 else none) else (bif Nat.beq t 96 then some ti96 else none)))))) else (bif Nat.blt t 111 then (bif Nat.blt t 106 then (bif Nat.blt t 103 then (bif Nat.blt t 101 then (bif Nat.beq t 99 then some ti99 else none) else (bif Nat.beq t 101 then some ti101 else none)) else (bif Nat.blt t 105 then (bif Nat.beq t 103 then some ti103 else none) else (bif Nat.beq t 105 then some ti105 else none))) else (bif Nat.blt t 108 then (bif Nat.blt t 107 then (bif Nat.beq t 106 then some ti106 else none) else (bif Nat.beq t 107 then some ti107 else none)) else (bif Nat.blt t 109 then (bif Nat.beq t 108 then some ti108 else none) else (bif Nat.blt t 110 then (bif Nat.beq t 109 then some ti109 else none) else (bif Nat.beq t 110 then some ti110 else none))))) else (bif Nat.blt t 115 then (bif Nat.blt t 113 then (bif Nat.blt t 112 then (bif Nat.beq t 111 then some ti111 else none) else (bif Nat.beq t 112 then some ti112 else none)) else (bif Nat.blt t 114 then (bif Nat.beq t 113 then some ti113 else none) else (bif Nat.beq t 114 then some ti114 else none))) else (bif Nat.blt t 117 then (bif Nat.blt t 116 then (bif Nat.beq t 115 then some ti115 else none) else (bif Nat.beq t 116 then some ti116 else none)) else (bif Nat.blt t 118 then (bif Nat.beq t 117 then some ti117 else none) else (bif Nat.blt t 119 then (bif Nat.beq t 118 then some ti118 else none) else (bif Nat.beq t 119 then some ti119 else none))))))) else (bif Nat.blt t 145 then (bif Nat.blt t 133 then (bif Nat.blt t 125 then (bif Nat.blt t 123 then (bif Nat.blt t 121 then (bif Nat.beq t 120 then some ti120 else none) else (bif Nat.beq t 121 then some ti121 else none)) else (bif Nat.blt t 124 then (bif Nat.beq t 123 then some ti123 else none) else (bif Nat.beq t 124 then some ti124 else none))) else (bif Nat.blt t 127 then (bif Nat.blt t 126 then (bif Nat.beq t 125 then some ti125 else none) else (bif Nat.beq t 126 then some ti126 else none)) else (bif Nat.blt t 128 then (bif Nat.beq t 127 then some ti127 else none) else (bif Nat.blt t 132 then (bif Nat.beq t 128 then some ti128 else none) else (bif Nat.beq t 132 then some ti132 else none))))) else (bif Nat.blt t 138 then (bif Nat.blt t 135 then (bif Nat.blt t 134 then (bif Nat.beq t 133 then some ti133 else none) else (bif Nat.beq t 134 then some ti134 else none)) else (bif Nat.blt t 136 then (bif Nat.beq t 135 then some ti135 else none) else (bif Nat.beq t 136 then some ti136 else none))) else (bif Nat.blt t 141 then (bif Nat.blt t 139 then (bif Nat.beq t 138 then some ti138 else none) else (bif Nat.beq t 139 then some ti139 else none)) else (bif Nat.blt t 142 then (bif Nat.beq t 141 then some ti141 else none) else (bif Nat.blt t 144 then (bif Nat.beq t 142 then some ti142 else none) else (bif Nat.beq t 144 then some ti144 else none)))))) else (bif Nat.blt t 154 then (bif Nat.blt t 149 then (bif Nat.blt t 147 then (bif Nat.blt t 146 then (bif Nat.beq t 145 then some ti145 else none) else (bif Nat.beq t 146 then some ti146 else none)) else (bif Nat.blt t 148 then (bif Nat.beq t 147 then some ti147 else none) else (bif Nat.beq t 148 then some ti148 else none))) else (bif Nat.blt t 151 then (bif Nat.blt t 150 then (bif Nat.beq t 149 then some ti149 else none) else (bif Nat.beq t 150 then some ti150 else none)) else (bif Nat.blt t 152 then (bif Nat.beq t 151 then some ti151 else none) else (bif Nat.blt t 153 then (bif Nat.beq t 152 then some ti152 else none) else (bif Nat.beq t 153 then some ti153 else none))))) else (bif Nat.blt t 158 then (bif Nat.blt t 156 then (bif Nat.blt t 155 then (bif Nat.beq t 154 then some ti154 else none) else (bif Nat.beq t 155 then some ti155 else none)) else (bif Nat.blt t 157 then (bif Nat.beq t 156 then some ti156 else none) else (bif Nat.beq t 157 then some ti157 else none))) else (bif Nat.blt t 160 then (bif Nat.blt t 159 then (bif Nat.beq t 158 then some ti158 else none) else (bif Nat.beq t 159 then some ti159 else none)) else (bif Nat.blt t 161 then (bif Nat.beq t 160 then some ti160 else none) else (bif Nat.blt t 162 then (bif Nat.beq t 161 then some ti161 else none) else (bif Nat.beq t 162 then some ti162 else none))))))))
theorem hT : TOk Tryd.prog T := by
 intro t i h
 unfold T at h
 cases h1 : Nat.blt t 78 with
 | true =>
  rw [h1, cond_true] at h
  cases h2 : Nat.blt t 40 with
  | true =>
   rw [h2, cond_true] at h
   cases h3 : Nat.blt t 18 with
   | true =>
    rw [h3, cond_true] at h
    cases h4 : Nat.blt t 9 with
    | true =>
     rw [h4, cond_true] at h
     cases h5 : Nat.blt t 5 with
     | true =>
      rw [h5, cond_true] at h
      cases h6 : Nat.blt t 3 with
      | true =>
       rw [h6, cond_true] at h
       cases h7 : Nat.blt t 2 with
       | true =>
        rw [h7, cond_true] at h
        cases h8 : Nat.beq t 1 with
        | true =>
         rw [h8, cond_true] at h
         have := Nat.eq_of_beq_eq_true h8
         subst this
         obtain rfl := Option.some.inj h
         exact tok1
        | false => rw [h8, cond_false] at h; cases h
       | false =>
        rw [h7, cond_false] at h
        cases h8 : Nat.beq t 2 with
        | true =>
         rw [h8, cond_true] at h
         have := Nat.eq_of_beq_eq_true h8
         subst this
         obtain rfl := Option.some.inj h
         exact tok2
        | false => rw [h8, cond_false] at h; cases h
      | false =>
       rw [h6, cond_false] at h
       cases h7 : Nat.blt t 4 with
       | true =>
        rw [h7, cond_true] at h
        cases h8 : Nat.beq t 3 with
        | true =>
         rw [h8, cond_true] at h
         have := Nat.eq_of_beq_eq_true h8
         subst this
         obtain rfl := Option.some.inj h
         exact tok3
        | false => rw [h8, cond_false] at h; cases h
       | false =>
        rw [h7, cond_false] at h
        cases h8 : Nat.beq t 4 with
        | true =>
         rw [h8, cond_true] at h
         have := Nat.eq_of_beq_eq_true h8
         subst this
         obtain rfl := Option.some.inj h
         exact tok4
        | false => rw [h8, cond_false] at h; cases h
     | false =>
      rw [h5, cond_false] at h
      cases h6 : Nat.blt t 7 with
      | true =>
       rw [h6, cond_true] at h
       cases h7 : Nat.blt t 6 with
       | true =>
        rw [h7, cond_true] at h
        cases h8 : Nat.beq t 5 with
        | true =>
         rw [h8, cond_true] at h
         have := Nat.eq_of_beq_eq_true h8
         subst this
         obtain rfl := Option.some.inj h
         exact tok5
        | false => rw [h8, cond_false] at h; cases h
       | false =>
        rw [h7, cond_false] at h
        cases h8 : Nat.beq t 6 with
        | true =>
         rw [h8, cond_true] at h
         have := Nat.eq_of_beq_eq_true h8
         subst this
         obtain rfl := Option.some.inj h
         exact tok6
        | false => rw [h8, cond_false] at h; cases h
      | false =>
       rw [h6, cond_false] at h
       cases h7 : Nat.blt t 8 with
       | true =>
        rw [h7, cond_true] at h
        cases h8 : Nat.beq t 7 with
        | true =>
         rw [h8, cond_true] at h
         have := Nat.eq_of_beq_eq_true h8
         subst this
         obtain rfl := Option.some.inj h
         exact tok7
        | false => rw [h8, cond_false] at h; cases h
       | false =>
        rw [h7, cond_false] at h
        cases h8 : Nat.beq t 8 with
        | true =>
         rw [h8, cond_true] at h
         have := Nat.eq_of_beq_eq_true h8
         subst this
         obtain rfl := Option.some.inj h
         exact tok8
        | false => rw [h8, cond_false] at h; cases h
    | false =>
     rw [h4, cond_false] at h
     cases h5 : Nat.blt t 13 with
     | true =>
      rw [h5, cond_true] at h
      cases h6 : Nat.blt t 11 with
      | true =>
       rw [h6, cond_true] at h
       cases h7 : Nat.blt t 10 with
       | true =>
        rw [h7, cond_true] at h
        cases h8 : Nat.beq t 9 with
        | true =>
         rw [h8, cond_true] at h
         have := Nat.eq_of_beq_eq_true h8
         subst this
         obtain rfl := Option.some.inj h
         exact tok9
        | false => rw [h8, cond_false] at h; cases h
       | false =>
        rw [h7, cond_false] at h
        cases h8 : Nat.beq t 10 with
        | true =>
         rw [h8, cond_true] at h
         have := Nat.eq_of_beq_eq_true h8
         subst this
         obtain rfl := Option.some.inj h
         exact tok10
        | false => rw [h8, cond_false] at h; cases h
      | false =>
       rw [h6, cond_false] at h
       cases h7 : Nat.blt t 12 with
       | true =>
        rw [h7, cond_true] at h
        cases h8 : Nat.beq t 11 with
        | true =>
         rw [h8, cond_true] at h
         have := Nat.eq_of_beq_eq_true h8
         subst this
         obtain rfl := Option.some.inj h
         exact tok11
        | false => rw [h8, cond_false] at h; cases h
       | false =>
        rw [h7, cond_false] at h
        cases h8 : Nat.beq t 12 with
        | true =>
         rw [h8, cond_true] at h
         have := Nat.eq_of_beq_eq_true h8
         subst this
         obtain rfl := Option.some.inj h
         exact tok12
        | false => rw [h8, cond_false] at h; cases h
     | false =>
      rw [h5, cond_false] at h
      cases h6 : Nat.blt t 15 with
      | true =>
       rw [h6, cond_true] at h
       cases h7 : Nat.blt t 14 with
       | true =>
        rw [h7, cond_true] at h
        cases h8 : Nat.beq t 13 with
        | true =>
         rw [h8, cond_true] at h
         have := Nat.eq_of_beq_eq_true h8
         subst this
         obtain rfl := Option.some.inj h
         exact tok13
        | false => rw [h8, cond_false] at h; cases h
       | false =>
        rw [h7, cond_false] at h
        cases h8 : Nat.beq t 14 with
        | true =>
         rw [h8, cond_true] at h
         have := Nat.eq_of_beq_eq_true h8
         subst this
         obtain rfl := Option.some.inj h
         exact tok14
        | false => rw [h8, cond_false] at h; cases h
      | false =>
       rw [h6, cond_false] at h
       cases h7 : Nat.blt t 16 with
       | true =>
        rw [h7, cond_true] at h
        cases h8 : Nat.beq t 15 with
        | true =>
         rw [h8, cond_true] at h
         have := Nat.eq_of_beq_eq_true h8
         subst this
         obtain rfl := Option.some.inj h
         exact tok15
        | false => rw [h8, cond_false] at h; cases h
       | false =>
        rw [h7, cond_false] at h
        cases h8 : Nat.blt t 17 with
        | true =>
         rw [h8, cond_true] at h
         cases h9 : Nat.beq t 16 with
         | true =>
          rw [h9, cond_true] at h
          have := Nat.eq_of_beq_eq_true h9
          subst this
          obtain rfl := Option.some.inj h
          exact tok16
         | false => rw [h9, cond_false] at h; cases h
        | false =>
         rw [h8, cond_false] at h
         cases h9 : Nat.beq t 17 with
         | true =>
          rw [h9, cond_true] at h
          have := Nat.eq_of_beq_eq_true h9
          subst this
          obtain rfl := Option.some.inj h
          exact tok17
         | false => rw [h9, cond_false] at h; cases h
   | false =>
    rw [h3, cond_false] at h
    cases h4 : Nat.blt t 28 with
    | true =>
     rw [h4, cond_true] at h
     cases h5 : Nat.blt t 22 with
     | true =>
      rw [h5, cond_true] at h
      cases h6 : Nat.blt t 20 with
      | true =>
       rw [h6, cond_true] at h
       cases h7 : Nat.blt t 19 with
       | true =>
        rw [h7, cond_true] at h
        cases h8 : Nat.beq t 18 with
        | true =>
         rw [h8, cond_true] at h
         have := Nat.eq_of_beq_eq_true h8
         subst this
         obtain rfl := Option.some.inj h
         exact tok18
        | false => rw [h8, cond_false] at h; cases h
       | false =>
        rw [h7, cond_false] at h
        cases h8 : Nat.beq t 19 with
        | true =>
         rw [h8, cond_true] at h
         have := Nat.eq_of_beq_eq_true h8
         subst this
         obtain rfl := Option.some.inj h
         exact tok19
        | false => rw [h8, cond_false] at h; cases h
      | false =>
       rw [h6, cond_false] at h
       cases h7 : Nat.blt t 21 with
       | true =>
        rw [h7, cond_true] at h
        cases h8 : Nat.beq t 20 with
        | true =>
         rw [h8, cond_true] at h
         have := Nat.eq_of_beq_eq_true h8
         subst this
         obtain rfl := Option.some.inj h
         exact tok20
        | false => rw [h8, cond_false] at h; cases h
       | false =>
        rw [h7, cond_false] at h
        cases h8 : Nat.beq t 21 with
        | true =>
         rw [h8, cond_true] at h
         have := Nat.eq_of_beq_eq_true h8
         subst this
         obtain rfl := Option.some.inj h
         exact tok21
        | false => rw [h8, cond_false] at h; cases h
     | false =>
      rw [h5, cond_false] at h
      cases h6 : Nat.blt t 24 with
      | true =>
       rw [h6, cond_true] at h
       cases h7 : Nat.blt t 23 with
       | true =>
        rw [h7, cond_true] at h
        cases h8 : Nat.beq t 22 with
        | true =>
         rw [h8, cond_true] at h
         have := Nat.eq_of_beq_eq_true h8
         subst this
         obtain rfl := Option.some.inj h
         exact tok22
        | false => rw [h8, cond_false] at h; cases h
       | false =>
        rw [h7, cond_false] at h
        cases h8 : Nat.beq t 23 with
        | true =>
         rw [h8, cond_true] at h
         have := Nat.eq_of_beq_eq_true h8
         subst this
         obtain rfl := Option.some.inj h
         exact tok23
        | false => rw [h8, cond_false] at h; cases h
      | false =>
       rw [h6, cond_false] at h
       cases h7 : Nat.blt t 25 with
       | true =>
        rw [h7, cond_true] at h
        cases h8 : Nat.beq t 24 with
        | true =>
         rw [h8, cond_true] at h
         have := Nat.eq_of_beq_eq_true h8
         subst this
         obtain rfl := Option.some.inj h
         exact tok24
        | false => rw [h8, cond_false] at h; cases h
       | false =>
        rw [h7, cond_false] at h
        cases h8 : Nat.blt t 27 with
        | true =>
         rw [h8, cond_true] at h
         cases h9 : Nat.beq t 25 with
         | true =>
          rw [h9, cond_true] at h
          have := Nat.eq_of_beq_eq_true h9
          subst this
          obtain rfl := Option.some.inj h
          exact tok25
         | false => rw [h9, cond_false] at h; cases h
        | false =>
         rw [h8, cond_false] at h
         cases h9 : Nat.beq t 27 with
         | true =>
          rw [h9, cond_true] at h
          have := Nat.eq_of_beq_eq_true h9
          subst this
          obtain rfl := Option.some.inj h
          exact tok27
         | false => rw [h9, cond_false] at h; cases h
    | false =>
     rw [h4, cond_false] at h
     cases h5 : Nat.blt t 34 with
     | true =>
      rw [h5, cond_true] at h
      cases h6 : Nat.blt t 31 with
      | true =>
       rw [h6, cond_true] at h
       cases h7 : Nat.blt t 30 with
       | true =>
        rw [h7, cond_true] at h
        cases h8 : Nat.beq t 28 with
        | true =>
         rw [h8, cond_true] at h
         have := Nat.eq_of_beq_eq_true h8
         subst this
         obtain rfl := Option.some.inj h
         exact tok28
        | false => rw [h8, cond_false] at h; cases h
       | false =>
        rw [h7, cond_false] at h
        cases h8 : Nat.beq t 30 with
        | true =>
         rw [h8, cond_true] at h
         have := Nat.eq_of_beq_eq_true h8
         subst this
         obtain rfl := Option.some.inj h
         exact tok30
        | false => rw [h8, cond_false] at h; cases h
      | false =>
       rw [h6, cond_false] at h
       cases h7 : Nat.blt t 32 with
       | true =>
        rw [h7, cond_true] at h
        cases h8 : Nat.beq t 31 with
        | true =>
         rw [h8, cond_true] at h
         have := Nat.eq_of_beq_eq_true h8
         subst this
         obtain rfl := Option.some.inj h
         exact tok31
        | false => rw [h8, cond_false] at h; cases h
       | false =>
        rw [h7, cond_false] at h
        cases h8 : Nat.beq t 32 with
        | true =>
         rw [h8, cond_true] at h
         have := Nat.eq_of_beq_eq_true h8
         subst this
         obtain rfl := Option.some.inj h
         exact tok32
        | false => rw [h8, cond_false] at h; cases h
     | false =>
      rw [h5, cond_false] at h
      cases h6 : Nat.blt t 37 with
      | true =>
       rw [h6, cond_true] at h
       cases h7 : Nat.blt t 35 with
       | true =>
        rw [h7, cond_true] at h
        cases h8 : Nat.beq t 34 with
        | true =>
         rw [h8, cond_true] at h
         have := Nat.eq_of_beq_eq_true h8
         subst this
         obtain rfl := Option.some.inj h
         exact tok34
        | false => rw [h8, cond_false] at h; cases h
       | false =>
        rw [h7, cond_false] at h
        cases h8 : Nat.beq t 35 with
        | true =>
         rw [h8, cond_true] at h
         have := Nat.eq_of_beq_eq_true h8
         subst this
         obtain rfl := Option.some.inj h
         exact tok35
        | false => rw [h8, cond_false] at h; cases h
      | false =>
       rw [h6, cond_false] at h
       cases h7 : Nat.blt t 38 with
       | true =>
        rw [h7, cond_true] at h
        cases h8 : Nat.beq t 37 with
        | true =>
         rw [h8, cond_true] at h
         have := Nat.eq_of_beq_eq_true h8
         subst this
         obtain rfl := Option.some.inj h
         exact tok37
        | false => rw [h8, cond_false] at h; cases h
       | false =>
        rw [h7, cond_false] at h
        cases h8 : Nat.blt t 39 with
        | true =>
         rw [h8, cond_true] at h
         cases h9 : Nat.beq t 38 with
         | true =>
          rw [h9, cond_true] at h
          have := Nat.eq_of_beq_eq_true h9
          subst this
          obtain rfl := Option.some.inj h
          exact tok38
         | false => rw [h9, cond_false] at h; cases h
        | false =>
         rw [h8, cond_false] at h
         cases h9 : Nat.beq t 39 with
         | true =>
          rw [h9, cond_true] at h
          have := Nat.eq_of_beq_eq_true h9
          subst this
          obtain rfl := Option.some.inj h
          exact tok39
         | false => rw [h9, cond_false] at h; cases h
  | false =>
   rw [h2, cond_false] at h
   cases h3 : Nat.blt t 59 with
   | true =>
    rw [h3, cond_true] at h
    cases h4 : Nat.blt t 50 with
    | true =>
     rw [h4, cond_true] at h
     cases h5 : Nat.blt t 46 with
     | true =>
      rw [h5, cond_true] at h
      cases h6 : Nat.blt t 42 with
      | true =>
       rw [h6, cond_true] at h
       cases h7 : Nat.blt t 41 with
       | true =>
        rw [h7, cond_true] at h
        cases h8 : Nat.beq t 40 with
        | true =>
         rw [h8, cond_true] at h
         have := Nat.eq_of_beq_eq_true h8
         subst this
         obtain rfl := Option.some.inj h
         exact tok40
        | false => rw [h8, cond_false] at h; cases h
       | false =>
        rw [h7, cond_false] at h
        cases h8 : Nat.beq t 41 with
        | true =>
         rw [h8, cond_true] at h
         have := Nat.eq_of_beq_eq_true h8
         subst this
         obtain rfl := Option.some.inj h
         exact tok41
        | false => rw [h8, cond_false] at h; cases h
      | false =>
       rw [h6, cond_false] at h
       cases h7 : Nat.blt t 44 with
       | true =>
        rw [h7, cond_true] at h
        cases h8 : Nat.beq t 42 with
        | true =>
         rw [h8, cond_true] at h
         have := Nat.eq_of_beq_eq_true h8
         subst this
         obtain rfl := Option.some.inj h
         exact tok42
        | false => rw [h8, cond_false] at h; cases h
       | false =>
        rw [h7, cond_false] at h
        cases h8 : Nat.beq t 44 with
        | true =>
         rw [h8, cond_true] at h
         have := Nat.eq_of_beq_eq_true h8
         subst this
         obtain rfl := Option.some.inj h
         exact tok44
        | false => rw [h8, cond_false] at h; cases h
     | false =>
      rw [h5, cond_false] at h
      cases h6 : Nat.blt t 48 with
      | true =>
       rw [h6, cond_true] at h
       cases h7 : Nat.blt t 47 with
       | true =>
        rw [h7, cond_true] at h
        cases h8 : Nat.beq t 46 with
        | true =>
         rw [h8, cond_true] at h
         have := Nat.eq_of_beq_eq_true h8
         subst this
         obtain rfl := Option.some.inj h
         exact tok46
        | false => rw [h8, cond_false] at h; cases h
       | false =>
        rw [h7, cond_false] at h
        cases h8 : Nat.beq t 47 with
        | true =>
         rw [h8, cond_true] at h
         have := Nat.eq_of_beq_eq_true h8
         subst this
         obtain rfl := Option.some.inj h
         exact tok47
        | false => rw [h8, cond_false] at h; cases h
      | false =>
       rw [h6, cond_false] at h
       cases h7 : Nat.blt t 49 with
       | true =>
        rw [h7, cond_true] at h
        cases h8 : Nat.beq t 48 with
        | true =>
         rw [h8, cond_true] at h
         have := Nat.eq_of_beq_eq_true h8
         subst this
         obtain rfl := Option.some.inj h
         exact tok48
        | false => rw [h8, cond_false] at h; cases h
       | false =>
        rw [h7, cond_false] at h
        cases h8 : Nat.beq t 49 with
        | true =>
         rw [h8, cond_true] at h
         have := Nat.eq_of_beq_eq_true h8
         subst this
         obtain rfl := Option.some.inj h
         exact tok49
        | false => rw [h8, cond_false] at h; cases h
    | false =>
     rw [h4, cond_false] at h
     cases h5 : Nat.blt t 54 with
     | true =>
      rw [h5, cond_true] at h
      cases h6 : Nat.blt t 52 with
      | true =>
       rw [h6, cond_true] at h
       cases h7 : Nat.blt t 51 with
       | true =>
        rw [h7, cond_true] at h
        cases h8 : Nat.beq t 50 with
        | true =>
         rw [h8, cond_true] at h
         have := Nat.eq_of_beq_eq_true h8
         subst this
         obtain rfl := Option.some.inj h
         exact tok50
        | false => rw [h8, cond_false] at h; cases h
       | false =>
        rw [h7, cond_false] at h
        cases h8 : Nat.beq t 51 with
        | true =>
         rw [h8, cond_true] at h
         have := Nat.eq_of_beq_eq_true h8
         subst this
         obtain rfl := Option.some.inj h
         exact tok51
        | false => rw [h8, cond_false] at h; cases h
      | false =>
       rw [h6, cond_false] at h
       cases h7 : Nat.blt t 53 with
       | true =>
        rw [h7, cond_true] at h
        cases h8 : Nat.beq t 52 with
        | true =>
         rw [h8, cond_true] at h
         have := Nat.eq_of_beq_eq_true h8
         subst this
         obtain rfl := Option.some.inj h
         exact tok52
        | false => rw [h8, cond_false] at h; cases h
       | false =>
        rw [h7, cond_false] at h
        cases h8 : Nat.beq t 53 with
        | true =>
         rw [h8, cond_true] at h
         have := Nat.eq_of_beq_eq_true h8
         subst this
         obtain rfl := Option.some.inj h
         exact tok53
        | false => rw [h8, cond_false] at h; cases h
     | false =>
      rw [h5, cond_false] at h
      cases h6 : Nat.blt t 56 with
      | true =>
       rw [h6, cond_true] at h
       cases h7 : Nat.blt t 55 with
       | true =>
        rw [h7, cond_true] at h
        cases h8 : Nat.beq t 54 with
        | true =>
         rw [h8, cond_true] at h
         have := Nat.eq_of_beq_eq_true h8
         subst this
         obtain rfl := Option.some.inj h
         exact tok54
        | false => rw [h8, cond_false] at h; cases h
       | false =>
        rw [h7, cond_false] at h
        cases h8 : Nat.beq t 55 with
        | true =>
         rw [h8, cond_true] at h
         have := Nat.eq_of_beq_eq_true h8
         subst this
         obtain rfl := Option.some.inj h
         exact tok55
        | false => rw [h8, cond_false] at h; cases h
      | false =>
       rw [h6, cond_false] at h
       cases h7 : Nat.blt t 57 with
       | true =>
        rw [h7, cond_true] at h
        cases h8 : Nat.beq t 56 with
        | true =>
         rw [h8, cond_true] at h
         have := Nat.eq_of_beq_eq_true h8
         subst this
         obtain rfl := Option.some.inj h
         exact tok56
        | false => rw [h8, cond_false] at h; cases h
       | false =>
        rw [h7, cond_false] at h
        cases h8 : Nat.blt t 58 with
        | true =>
         rw [h8, cond_true] at h
         cases h9 : Nat.beq t 57 with
         | true =>
          rw [h9, cond_true] at h
          have := Nat.eq_of_beq_eq_true h9
          subst this
          obtain rfl := Option.some.inj h
          exact tok57
         | false => rw [h9, cond_false] at h; cases h
        | false =>
         rw [h8, cond_false] at h
         cases h9 : Nat.beq t 58 with
         | true =>
          rw [h9, cond_true] at h
          have := Nat.eq_of_beq_eq_true h9
          subst this
          obtain rfl := Option.some.inj h
          exact tok58
         | false => rw [h9, cond_false] at h; cases h
   | false =>
    rw [h3, cond_false] at h
    cases h4 : Nat.blt t 69 with
    | true =>
     rw [h4, cond_true] at h
     cases h5 : Nat.blt t 64 with
     | true =>
      rw [h5, cond_true] at h
      cases h6 : Nat.blt t 61 with
      | true =>
       rw [h6, cond_true] at h
       cases h7 : Nat.blt t 60 with
       | true =>
        rw [h7, cond_true] at h
        cases h8 : Nat.beq t 59 with
        | true =>
         rw [h8, cond_true] at h
         have := Nat.eq_of_beq_eq_true h8
         subst this
         obtain rfl := Option.some.inj h
         exact tok59
        | false => rw [h8, cond_false] at h; cases h
       | false =>
        rw [h7, cond_false] at h
        cases h8 : Nat.beq t 60 with
        | true =>
         rw [h8, cond_true] at h
         have := Nat.eq_of_beq_eq_true h8
         subst this
         obtain rfl := Option.some.inj h
         exact tok60
        | false => rw [h8, cond_false] at h; cases h
      | false =>
       rw [h6, cond_false] at h
       cases h7 : Nat.blt t 63 with
       | true =>
        rw [h7, cond_true] at h
        cases h8 : Nat.beq t 61 with
        | true =>
         rw [h8, cond_true] at h
         have := Nat.eq_of_beq_eq_true h8
         subst this
         obtain rfl := Option.some.inj h
         exact tok61
        | false => rw [h8, cond_false] at h; cases h
       | false =>
        rw [h7, cond_false] at h
        cases h8 : Nat.beq t 63 with
        | true =>
         rw [h8, cond_true] at h
         have := Nat.eq_of_beq_eq_true h8
         subst this
         obtain rfl := Option.some.inj h
         exact tok63
        | false => rw [h8, cond_false] at h; cases h
     | false =>
      rw [h5, cond_false] at h
      cases h6 : Nat.blt t 66 with
      | true =>
       rw [h6, cond_true] at h
       cases h7 : Nat.blt t 65 with
       | true =>
        rw [h7, cond_true] at h
        cases h8 : Nat.beq t 64 with
        | true =>
         rw [h8, cond_true] at h
         have := Nat.eq_of_beq_eq_true h8
         subst this
         obtain rfl := Option.some.inj h
         exact tok64
        | false => rw [h8, cond_false] at h; cases h
       | false =>
        rw [h7, cond_false] at h
        cases h8 : Nat.beq t 65 with
        | true =>
         rw [h8, cond_true] at h
         have := Nat.eq_of_beq_eq_true h8
         subst this
         obtain rfl := Option.some.inj h
         exact tok65
        | false => rw [h8, cond_false] at h; cases h
      | false =>
       rw [h6, cond_false] at h
       cases h7 : Nat.blt t 67 with
       | true =>
        rw [h7, cond_true] at h
        cases h8 : Nat.beq t 66 with
        | true =>
         rw [h8, cond_true] at h
         have := Nat.eq_of_beq_eq_true h8
         subst this
         obtain rfl := Option.some.inj h
         exact tok66
        | false => rw [h8, cond_false] at h; cases h
       | false =>
        rw [h7, cond_false] at h
        cases h8 : Nat.blt t 68 with
        | true =>
         rw [h8, cond_true] at h
         cases h9 : Nat.beq t 67 with
         | true =>
          rw [h9, cond_true] at h
          have := Nat.eq_of_beq_eq_true h9
          subst this
          obtain rfl := Option.some.inj h
          exact tok67
         | false => rw [h9, cond_false] at h; cases h
        | false =>
         rw [h8, cond_false] at h
         cases h9 : Nat.beq t 68 with
         | true =>
          rw [h9, cond_true] at h
          have := Nat.eq_of_beq_eq_true h9
          subst this
          obtain rfl := Option.some.inj h
          exact tok68
         | false => rw [h9, cond_false] at h; cases h
    | false =>
     rw [h4, cond_false] at h
     cases h5 : Nat.blt t 73 with
     | true =>
      rw [h5, cond_true] at h
      cases h6 : Nat.blt t 71 with
      | true =>
       rw [h6, cond_true] at h
       cases h7 : Nat.blt t 70 with
       | true =>
        rw [h7, cond_true] at h
        cases h8 : Nat.beq t 69 with
        | true =>
         rw [h8, cond_true] at h
         have := Nat.eq_of_beq_eq_true h8
         subst this
         obtain rfl := Option.some.inj h
         exact tok69
        | false => rw [h8, cond_false] at h; cases h
       | false =>
        rw [h7, cond_false] at h
        cases h8 : Nat.beq t 70 with
        | true =>
         rw [h8, cond_true] at h
         have := Nat.eq_of_beq_eq_true h8
         subst this
         obtain rfl := Option.some.inj h
         exact tok70
        | false => rw [h8, cond_false] at h; cases h
      | false =>
       rw [h6, cond_false] at h
       cases h7 : Nat.blt t 72 with
       | true =>
        rw [h7, cond_true] at h
        cases h8 : Nat.beq t 71 with
        | true =>
         rw [h8, cond_true] at h
         have := Nat.eq_of_beq_eq_true h8
         subst this
         obtain rfl := Option.some.inj h
         exact tok71
        | false => rw [h8, cond_false] at h; cases h
       | false =>
        rw [h7, cond_false] at h
        cases h8 : Nat.beq t 72 with
        | true =>
         rw [h8, cond_true] at h
         have := Nat.eq_of_beq_eq_true h8
         subst this
         obtain rfl := Option.some.inj h
         exact tok72
        | false => rw [h8, cond_false] at h; cases h
     | false =>
      rw [h5, cond_false] at h
      cases h6 : Nat.blt t 75 with
      | true =>
       rw [h6, cond_true] at h
       cases h7 : Nat.blt t 74 with
       | true =>
        rw [h7, cond_true] at h
        cases h8 : Nat.beq t 73 with
        | true =>
         rw [h8, cond_true] at h
         have := Nat.eq_of_beq_eq_true h8
         subst this
         obtain rfl := Option.some.inj h
         exact tok73
        | false => rw [h8, cond_false] at h; cases h
       | false =>
        rw [h7, cond_false] at h
        cases h8 : Nat.beq t 74 with
        | true =>
         rw [h8, cond_true] at h
         have := Nat.eq_of_beq_eq_true h8
         subst this
         obtain rfl := Option.some.inj h
         exact tok74
        | false => rw [h8, cond_false] at h; cases h
      | false =>
       rw [h6, cond_false] at h
       cases h7 : Nat.blt t 76 with
       | true =>
        rw [h7, cond_true] at h
        cases h8 : Nat.beq t 75 with
        | true =>
         rw [h8, cond_true] at h
         have := Nat.eq_of_beq_eq_true h8
         subst this
         obtain rfl := Option.some.inj h
         exact tok75
        | false => rw [h8, cond_false] at h; cases h
       | false =>
        rw [h7, cond_false] at h
        cases h8 : Nat.blt t 77 with
        | true =>
         rw [h8, cond_true] at h
         cases h9 : Nat.beq t 76 with
         | true =>
          rw [h9, cond_true] at h
          have := Nat.eq_of_beq_eq_true h9
          subst this
          obtain rfl := Option.some.inj h
          exact tok76
         | false => rw [h9, cond_false] at h; cases h
        | false =>
         rw [h8, cond_false] at h
         cases h9 : Nat.beq t 77 with
         | true =>
          rw [h9, cond_true] at h
          have := Nat.eq_of_beq_eq_true h9
          subst this
          obtain rfl := Option.some.inj h
          exact tok77
         | false => rw [h9, cond_false] at h; cases h
 | false =>
  rw [h1, cond_false] at h
  cases h2 : Nat.blt t 120 with
  | true =>
   rw [h2, cond_true] at h
   cases h3 : Nat.blt t 99 with
   | true =>
    rw [h3, cond_true] at h
    cases h4 : Nat.blt t 87 with
    | true =>
     rw [h4, cond_true] at h
     cases h5 : Nat.blt t 82 with
     | true =>
      rw [h5, cond_true] at h
      cases h6 : Nat.blt t 80 with
      | true =>
       rw [h6, cond_true] at h
       cases h7 : Nat.blt t 79 with
       | true =>
        rw [h7, cond_true] at h
        cases h8 : Nat.beq t 78 with
        | true =>
         rw [h8, cond_true] at h
         have := Nat.eq_of_beq_eq_true h8
         subst this
         obtain rfl := Option.some.inj h
         exact tok78
        | false => rw [h8, cond_false] at h; cases h
       | false =>
        rw [h7, cond_false] at h
        cases h8 : Nat.beq t 79 with
        | true =>
         rw [h8, cond_true] at h
         have := Nat.eq_of_beq_eq_true h8
         subst this
         obtain rfl := Option.some.inj h
         exact tok79
        | false => rw [h8, cond_false] at h; cases h
      | false =>
       rw [h6, cond_false] at h
       cases h7 : Nat.blt t 81 with
       | true =>
        rw [h7, cond_true] at h
        cases h8 : Nat.beq t 80 with
        | true =>
         rw [h8, cond_true] at h
         have := Nat.eq_of_beq_eq_true h8
         subst this
         obtain rfl := Option.some.inj h
         exact tok80
        | false => rw [h8, cond_false] at h; cases h
       | false =>
        rw [h7, cond_false] at h
        cases h8 : Nat.beq t 81 with
        | true =>
         rw [h8, cond_true] at h
         have := Nat.eq_of_beq_eq_true h8
         subst this
         obtain rfl := Option.some.inj h
         exact tok81
        | false => rw [h8, cond_false] at h; cases h
     | false =>
      rw [h5, cond_false] at h
      cases h6 : Nat.blt t 84 with
      | true =>
       rw [h6, cond_true] at h
       cases h7 : Nat.blt t 83 with
       | true =>
        rw [h7, cond_true] at h
        cases h8 : Nat.beq t 82 with
        | true =>
         rw [h8, cond_true] at h
         have := Nat.eq_of_beq_eq_true h8
         subst this
         obtain rfl := Option.some.inj h
         exact tok82
        | false => rw [h8, cond_false] at h; cases h
       | false =>
        rw [h7, cond_false] at h
        cases h8 : Nat.beq t 83 with
        | true =>
         rw [h8, cond_true] at h
         have := Nat.eq_of_beq_eq_true h8
         subst this
         obtain rfl := Option.some.inj h
         exact tok83
        | false => rw [h8, cond_false] at h; cases h
      | false =>
       rw [h6, cond_false] at h
       cases h7 : Nat.blt t 86 with
       | true =>
        rw [h7, cond_true] at h
        cases h8 : Nat.beq t 84 with
        | true =>
         rw [h8, cond_true] at h
         have := Nat.eq_of_beq_eq_true h8
         subst this
         obtain rfl := Option.some.inj h
         exact tok84
        | false => rw [h8, cond_false] at h; cases h
       | false =>
        rw [h7, cond_false] at h
        cases h8 : Nat.beq t 86 with
        | true =>
         rw [h8, cond_true] at h
         have := Nat.eq_of_beq_eq_true h8
         subst this
         obtain rfl := Option.some.inj h
         exact tok86
        | false => rw [h8, cond_false] at h; cases h
    | false =>
     rw [h4, cond_false] at h
     cases h5 : Nat.blt t 92 with
     | true =>
      rw [h5, cond_true] at h
      cases h6 : Nat.blt t 90 with
      | true =>
       rw [h6, cond_true] at h
       cases h7 : Nat.blt t 89 with
       | true =>
        rw [h7, cond_true] at h
        cases h8 : Nat.beq t 87 with
        | true =>
         rw [h8, cond_true] at h
         have := Nat.eq_of_beq_eq_true h8
         subst this
         obtain rfl := Option.some.inj h
         exact tok87
        | false => rw [h8, cond_false] at h; cases h
       | false =>
        rw [h7, cond_false] at h
        cases h8 : Nat.beq t 89 with
        | true =>
         rw [h8, cond_true] at h
         have := Nat.eq_of_beq_eq_true h8
         subst this
         obtain rfl := Option.some.inj h
         exact tok89
        | false => rw [h8, cond_false] at h; cases h
      | false =>
       rw [h6, cond_false] at h
       cases h7 : Nat.blt t 91 with
       | true =>
        rw [h7, cond_true] at h
        cases h8 : Nat.beq t 90 with
        | true =>
         rw [h8, cond_true] at h
         have := Nat.eq_of_beq_eq_true h8
         subst this
         obtain rfl := Option.some.inj h
         exact tok90
        | false => rw [h8, cond_false] at h; cases h
       | false =>
        rw [h7, cond_false] at h
        cases h8 : Nat.beq t 91 with
        | true =>
         rw [h8, cond_true] at h
         have := Nat.eq_of_beq_eq_true h8
         subst this
         obtain rfl := Option.some.inj h
         exact tok91
        | false => rw [h8, cond_false] at h; cases h
     | false =>
      rw [h5, cond_false] at h
      cases h6 : Nat.blt t 94 with
      | true =>
       rw [h6, cond_true] at h
       cases h7 : Nat.blt t 93 with
       | true =>
        rw [h7, cond_true] at h
        cases h8 : Nat.beq t 92 with
        | true =>
         rw [h8, cond_true] at h
         have := Nat.eq_of_beq_eq_true h8
         subst this
         obtain rfl := Option.some.inj h
         exact tok92
        | false => rw [h8, cond_false] at h; cases h
       | false =>
        rw [h7, cond_false] at h
        cases h8 : Nat.beq t 93 with
        | true =>
         rw [h8, cond_true] at h
         have := Nat.eq_of_beq_eq_true h8
         subst this
         obtain rfl := Option.some.inj h
         exact tok93
        | false => rw [h8, cond_false] at h; cases h
      | false =>
       rw [h6, cond_false] at h
       cases h7 : Nat.blt t 95 with
       | true =>
        rw [h7, cond_true] at h
        cases h8 : Nat.beq t 94 with
        | true =>
         rw [h8, cond_true] at h
         have := Nat.eq_of_beq_eq_true h8
         subst this
         obtain rfl := Option.some.inj h
         exact tok94
        | false => rw [h8, cond_false] at h; cases h
       | false =>
        rw [h7, cond_false] at h
        cases h8 : Nat.blt t 96 with
        | true =>
         rw [h8, cond_true] at h
         cases h9 : Nat.beq t 95 with
         | true =>
          rw [h9, cond_true] at h
          have := Nat.eq_of_beq_eq_true h9
          subst this
          obtain rfl := Option.some.inj h
          exact tok95
         | false => rw [h9, cond_false] at h; cases h
        | false =>
         rw [h8, cond_false] at h
         cases h9 : Nat.beq t 96 with
         | true =>
          rw [h9, cond_true] at h
          have := Nat.eq_of_beq_eq_true h9
          subst this
          obtain rfl := Option.some.inj h
          exact tok96
         | false => rw [h9, cond_false] at h; cases h
   | false =>
    rw [h3, cond_false] at h
    cases h4 : Nat.blt t 111 with
    | true =>
     rw [h4, cond_true] at h
     cases h5 : Nat.blt t 106 with
     | true =>
      rw [h5, cond_true] at h
      cases h6 : Nat.blt t 103 with
      | true =>
       rw [h6, cond_true] at h
       cases h7 : Nat.blt t 101 with
       | true =>
        rw [h7, cond_true] at h
        cases h8 : Nat.beq t 99 with
        | true =>
         rw [h8, cond_true] at h
         have := Nat.eq_of_beq_eq_true h8
         subst this
         obtain rfl := Option.some.inj h
         exact tok99
        | false => rw [h8, cond_false] at h; cases h
       | false =>
        rw [h7, cond_false] at h
        cases h8 : Nat.beq t 101 with
        | true =>
         rw [h8, cond_true] at h
         have := Nat.eq_of_beq_eq_true h8
         subst this
         obtain rfl := Option.some.inj h
         exact tok101
        | false => rw [h8, cond_false] at h; cases h
      | false =>
       rw [h6, cond_false] at h
       cases h7 : Nat.blt t 105 with
       | true =>
        rw [h7, cond_true] at h
        cases h8 : Nat.beq t 103 with
        | true =>
         rw [h8, cond_true] at h
         have := Nat.eq_of_beq_eq_true h8
         subst this
         obtain rfl := Option.some.inj h
         exact tok103
        | false => rw [h8, cond_false] at h; cases h
       | false =>
        rw [h7, cond_false] at h
        cases h8 : Nat.beq t 105 with
        | true =>
         rw [h8, cond_true] at h
         have := Nat.eq_of_beq_eq_true h8
         subst this
         obtain rfl := Option.some.inj h
         exact tok105
        | false => rw [h8, cond_false] at h; cases h
     | false =>
      rw [h5, cond_false] at h
      cases h6 : Nat.blt t 108 with
      | true =>
       rw [h6, cond_true] at h
       cases h7 : Nat.blt t 107 with
       | true =>
        rw [h7, cond_true] at h
        cases h8 : Nat.beq t 106 with
        | true =>
         rw [h8, cond_true] at h
         have := Nat.eq_of_beq_eq_true h8
         subst this
         obtain rfl := Option.some.inj h
         exact tok106
        | false => rw [h8, cond_false] at h; cases h
       | false =>
        rw [h7, cond_false] at h
        cases h8 : Nat.beq t 107 with
        | true =>
         rw [h8, cond_true] at h
         have := Nat.eq_of_beq_eq_true h8
         subst this
         obtain rfl := Option.some.inj h
         exact tok107
        | false => rw [h8, cond_false] at h; cases h
      | false =>
       rw [h6, cond_false] at h
       cases h7 : Nat.blt t 109 with
       | true =>
        rw [h7, cond_true] at h
        cases h8 : Nat.beq t 108 with
        | true =>
         rw [h8, cond_true] at h
         have := Nat.eq_of_beq_eq_true h8
         subst this
         obtain rfl := Option.some.inj h
         exact tok108
        | false => rw [h8, cond_false] at h; cases h
       | false =>
        rw [h7, cond_false] at h
        cases h8 : Nat.blt t 110 with
        | true =>
         rw [h8, cond_true] at h
         cases h9 : Nat.beq t 109 with
         | true =>
          rw [h9, cond_true] at h
          have := Nat.eq_of_beq_eq_true h9
          subst this
          obtain rfl := Option.some.inj h
          exact tok109
         | false => rw [h9, cond_false] at h; cases h
        | false =>
         rw [h8, cond_false] at h
         cases h9 : Nat.beq t 110 with
         | true =>
          rw [h9, cond_true] at h
          have := Nat.eq_of_beq_eq_true h9
          subst this
          obtain rfl := Option.some.inj h
          exact tok110
         | false => rw [h9, cond_false] at h; cases h
    | false =>
     rw [h4, cond_false] at h
     cases h5 : Nat.blt t 115 with
     | true =>
      rw [h5, cond_true] at h
      cases h6 : Nat.blt t 113 with
      | true =>
       rw [h6, cond_true] at h
       cases h7 : Nat.blt t 112 with
       | true =>
        rw [h7, cond_true] at h
        cases h8 : Nat.beq t 111 with
        | true =>
         rw [h8, cond_true] at h
         have := Nat.eq_of_beq_eq_true h8
         subst this
         obtain rfl := Option.some.inj h
         exact tok111
        | false => rw [h8, cond_false] at h; cases h
       | false =>
        rw [h7, cond_false] at h
        cases h8 : Nat.beq t 112 with
        | true =>
         rw [h8, cond_true] at h
         have := Nat.eq_of_beq_eq_true h8
         subst this
         obtain rfl := Option.some.inj h
         exact tok112
        | false => rw [h8, cond_false] at h; cases h
      | false =>
       rw [h6, cond_false] at h
       cases h7 : Nat.blt t 114 with
       | true =>
        rw [h7, cond_true] at h
        cases h8 : Nat.beq t 113 with
        | true =>
         rw [h8, cond_true] at h
         have := Nat.eq_of_beq_eq_true h8
         subst this
         obtain rfl := Option.some.inj h
         exact tok113
        | false => rw [h8, cond_false] at h; cases h
       | false =>
        rw [h7, cond_false] at h
        cases h8 : Nat.beq t 114 with
        | true =>
         rw [h8, cond_true] at h
         have := Nat.eq_of_beq_eq_true h8
         subst this
         obtain rfl := Option.some.inj h
         exact tok114
        | false => rw [h8, cond_false] at h; cases h
     | false =>
      rw [h5, cond_false] at h
      cases h6 : Nat.blt t 117 with
      | true =>
       rw [h6, cond_true] at h
       cases h7 : Nat.blt t 116 with
       | true =>
        rw [h7, cond_true] at h
        cases h8 : Nat.beq t 115 with
        | true =>
         rw [h8, cond_true] at h
         have := Nat.eq_of_beq_eq_true h8
         subst this
         obtain rfl := Option.some.inj h
         exact tok115
        | false => rw [h8, cond_false] at h; cases h
       | false =>
        rw [h7, cond_false] at h
        cases h8 : Nat.beq t 116 with
        | true =>
         rw [h8, cond_true] at h
         have := Nat.eq_of_beq_eq_true h8
         subst this
         obtain rfl := Option.some.inj h
         exact tok116
        | false => rw [h8, cond_false] at h; cases h
      | false =>
       rw [h6, cond_false] at h
       cases h7 : Nat.blt t 118 with
       | true =>
        rw [h7, cond_true] at h
        cases h8 : Nat.beq t 117 with
        | true =>
         rw [h8, cond_true] at h
         have := Nat.eq_of_beq_eq_true h8
         subst this
         obtain rfl := Option.some.inj h
         exact tok117
        | false => rw [h8, cond_false] at h; cases h
       | false =>
        rw [h7, cond_false] at h
        cases h8 : Nat.blt t 119 with
        | true =>
         rw [h8, cond_true] at h
         cases h9 : Nat.beq t 118 with
         | true =>
          rw [h9, cond_true] at h
          have := Nat.eq_of_beq_eq_true h9
          subst this
          obtain rfl := Option.some.inj h
          exact tok118
         | false => rw [h9, cond_false] at h; cases h
        | false =>
         rw [h8, cond_false] at h
         cases h9 : Nat.beq t 119 with
         | true =>
          rw [h9, cond_true] at h
          have := Nat.eq_of_beq_eq_true h9
          subst this
          obtain rfl := Option.some.inj h
          exact tok119
         | false => rw [h9, cond_false] at h; cases h
  | false =>
   rw [h2, cond_false] at h
   cases h3 : Nat.blt t 145 with
   | true =>
    rw [h3, cond_true] at h
    cases h4 : Nat.blt t 133 with
    | true =>
     rw [h4, cond_true] at h
     cases h5 : Nat.blt t 125 with
     | true =>
      rw [h5, cond_true] at h
      cases h6 : Nat.blt t 123 with
      | true =>
       rw [h6, cond_true] at h
       cases h7 : Nat.blt t 121 with
       | true =>
        rw [h7, cond_true] at h
        cases h8 : Nat.beq t 120 with
        | true =>
         rw [h8, cond_true] at h
         have := Nat.eq_of_beq_eq_true h8
         subst this
         obtain rfl := Option.some.inj h
         exact tok120
        | false => rw [h8, cond_false] at h; cases h
       | false =>
        rw [h7, cond_false] at h
        cases h8 : Nat.beq t 121 with
        | true =>
         rw [h8, cond_true] at h
         have := Nat.eq_of_beq_eq_true h8
         subst this
         obtain rfl := Option.some.inj h
         exact tok121
        | false => rw [h8, cond_false] at h; cases h
      | false =>
       rw [h6, cond_false] at h
       cases h7 : Nat.blt t 124 with
       | true =>
        rw [h7, cond_true] at h
        cases h8 : Nat.beq t 123 with
        | true =>
         rw [h8, cond_true] at h
         have := Nat.eq_of_beq_eq_true h8
         subst this
         obtain rfl := Option.some.inj h
         exact tok123
        | false => rw [h8, cond_false] at h; cases h
       | false =>
        rw [h7, cond_false] at h
        cases h8 : Nat.beq t 124 with
        | true =>
         rw [h8, cond_true] at h
         have := Nat.eq_of_beq_eq_true h8
         subst this
         obtain rfl := Option.some.inj h
         exact tok124
        | false => rw [h8, cond_false] at h; cases h
     | false =>
      rw [h5, cond_false] at h
      cases h6 : Nat.blt t 127 with
      | true =>
       rw [h6, cond_true] at h
       cases h7 : Nat.blt t 126 with
       | true =>
        rw [h7, cond_true] at h
        cases h8 : Nat.beq t 125 with
        | true =>
         rw [h8, cond_true] at h
         have := Nat.eq_of_beq_eq_true h8
         subst this
         obtain rfl := Option.some.inj h
         exact tok125
        | false => rw [h8, cond_false] at h; cases h
       | false =>
        rw [h7, cond_false] at h
        cases h8 : Nat.beq t 126 with
        | true =>
         rw [h8, cond_true] at h
         have := Nat.eq_of_beq_eq_true h8
         subst this
         obtain rfl := Option.some.inj h
         exact tok126
        | false => rw [h8, cond_false] at h; cases h
      | false =>
       rw [h6, cond_false] at h
       cases h7 : Nat.blt t 128 with
       | true =>
        rw [h7, cond_true] at h
        cases h8 : Nat.beq t 127 with
        | true =>
         rw [h8, cond_true] at h
         have := Nat.eq_of_beq_eq_true h8
         subst this
         obtain rfl := Option.some.inj h
         exact tok127
        | false => rw [h8, cond_false] at h; cases h
       | false =>
        rw [h7, cond_false] at h
        cases h8 : Nat.blt t 132 with
        | true =>
         rw [h8, cond_true] at h
         cases h9 : Nat.beq t 128 with
         | true =>
          rw [h9, cond_true] at h
          have := Nat.eq_of_beq_eq_true h9
          subst this
          obtain rfl := Option.some.inj h
          exact tok128
         | false => rw [h9, cond_false] at h; cases h
        | false =>
         rw [h8, cond_false] at h
         cases h9 : Nat.beq t 132 with
         | true =>
          rw [h9, cond_true] at h
          have := Nat.eq_of_beq_eq_true h9
          subst this
          obtain rfl := Option.some.inj h
          exact tok132
         | false => rw [h9, cond_false] at h; cases h
    | false =>
     rw [h4, cond_false] at h
     cases h5 : Nat.blt t 138 with
     | true =>
      rw [h5, cond_true] at h
      cases h6 : Nat.blt t 135 with
      | true =>
       rw [h6, cond_true] at h
       cases h7 : Nat.blt t 134 with
       | true =>
        rw [h7, cond_true] at h
        cases h8 : Nat.beq t 133 with
        | true =>
         rw [h8, cond_true] at h
         have := Nat.eq_of_beq_eq_true h8
         subst this
         obtain rfl := Option.some.inj h
         exact tok133
        | false => rw [h8, cond_false] at h; cases h
       | false =>
        rw [h7, cond_false] at h
        cases h8 : Nat.beq t 134 with
        | true =>
         rw [h8, cond_true] at h
         have := Nat.eq_of_beq_eq_true h8
         subst this
         obtain rfl := Option.some.inj h
         exact tok134
        | false => rw [h8, cond_false] at h; cases h
      | false =>
       rw [h6, cond_false] at h
       cases h7 : Nat.blt t 136 with
       | true =>
        rw [h7, cond_true] at h
        cases h8 : Nat.beq t 135 with
        | true =>
         rw [h8, cond_true] at h
         have := Nat.eq_of_beq_eq_true h8
         subst this
         obtain rfl := Option.some.inj h
         exact tok135
        | false => rw [h8, cond_false] at h; cases h
       | false =>
        rw [h7, cond_false] at h
        cases h8 : Nat.beq t 136 with
        | true =>
         rw [h8, cond_true] at h
         have := Nat.eq_of_beq_eq_true h8
         subst this
         obtain rfl := Option.some.inj h
         exact tok136
        | false => rw [h8, cond_false] at h; cases h
     | false =>
      rw [h5, cond_false] at h
      cases h6 : Nat.blt t 141 with
      | true =>
       rw [h6, cond_true] at h
       cases h7 : Nat.blt t 139 with
       | true =>
        rw [h7, cond_true] at h
        cases h8 : Nat.beq t 138 with
        | true =>
         rw [h8, cond_true] at h
         have := Nat.eq_of_beq_eq_true h8
         subst this
         obtain rfl := Option.some.inj h
         exact tok138
        | false => rw [h8, cond_false] at h; cases h
       | false =>
        rw [h7, cond_false] at h
        cases h8 : Nat.beq t 139 with
        | true =>
         rw [h8, cond_true] at h
         have := Nat.eq_of_beq_eq_true h8
         subst this
         obtain rfl := Option.some.inj h
         exact tok139
        | false => rw [h8, cond_false] at h; cases h
      | false =>
       rw [h6, cond_false] at h
       cases h7 : Nat.blt t 142 with
       | true =>
        rw [h7, cond_true] at h
        cases h8 : Nat.beq t 141 with
        | true =>
         rw [h8, cond_true] at h
         have := Nat.eq_of_beq_eq_true h8
         subst this
         obtain rfl := Option.some.inj h
         exact tok141
        | false => rw [h8, cond_false] at h; cases h
       | false =>
        rw [h7, cond_false] at h
        cases h8 : Nat.blt t 144 with
        | true =>
         rw [h8, cond_true] at h
         cases h9 : Nat.beq t 142 with
         | true =>
          rw [h9, cond_true] at h
          have := Nat.eq_of_beq_eq_true h9
          subst this
          obtain rfl := Option.some.inj h
          exact tok142
         | false => rw [h9, cond_false] at h; cases h
        | false =>
         rw [h8, cond_false] at h
         cases h9 : Nat.beq t 144 with
         | true =>
          rw [h9, cond_true] at h
          have := Nat.eq_of_beq_eq_true h9
          subst this
          obtain rfl := Option.some.inj h
          exact tok144
         | false => rw [h9, cond_false] at h; cases h
   | false =>
    rw [h3, cond_false] at h
    cases h4 : Nat.blt t 154 with
    | true =>
     rw [h4, cond_true] at h
     cases h5 : Nat.blt t 149 with
     | true =>
      rw [h5, cond_true] at h
      cases h6 : Nat.blt t 147 with
      | true =>
       rw [h6, cond_true] at h
       cases h7 : Nat.blt t 146 with
       | true =>
        rw [h7, cond_true] at h
        cases h8 : Nat.beq t 145 with
        | true =>
         rw [h8, cond_true] at h
         have := Nat.eq_of_beq_eq_true h8
         subst this
         obtain rfl := Option.some.inj h
         exact tok145
        | false => rw [h8, cond_false] at h; cases h
       | false =>
        rw [h7, cond_false] at h
        cases h8 : Nat.beq t 146 with
        | true =>
         rw [h8, cond_true] at h
         have := Nat.eq_of_beq_eq_true h8
         subst this
         obtain rfl := Option.some.inj h
         exact tok146
        | false => rw [h8, cond_false] at h; cases h
      | false =>
       rw [h6, cond_false] at h
       cases h7 : Nat.blt t 148 with
       | true =>
        rw [h7, cond_true] at h
        cases h8 : Nat.beq t 147 with
        | true =>
         rw [h8, cond_true] at h
         have := Nat.eq_of_beq_eq_true h8
         subst this
         obtain rfl := Option.some.inj h
         exact tok147
        | false => rw [h8, cond_false] at h; cases h
       | false =>
        rw [h7, cond_false] at h
        cases h8 : Nat.beq t 148 with
        | true =>
         rw [h8, cond_true] at h
         have := Nat.eq_of_beq_eq_true h8
         subst this
         obtain rfl := Option.some.inj h
         exact tok148
        | false => rw [h8, cond_false] at h; cases h
     | false =>
      rw [h5, cond_false] at h
      cases h6 : Nat.blt t 151 with
      | true =>
       rw [h6, cond_true] at h
       cases h7 : Nat.blt t 150 with
       | true =>
        rw [h7, cond_true] at h
        cases h8 : Nat.beq t 149 with
        | true =>
         rw [h8, cond_true] at h
         have := Nat.eq_of_beq_eq_true h8
         subst this
         obtain rfl := Option.some.inj h
         exact tok149
        | false => rw [h8, cond_false] at h; cases h
       | false =>
        rw [h7, cond_false] at h
        cases h8 : Nat.beq t 150 with
        | true =>
         rw [h8, cond_true] at h
         have := Nat.eq_of_beq_eq_true h8
         subst this
         obtain rfl := Option.some.inj h
         exact tok150
        | false => rw [h8, cond_false] at h; cases h
      | false =>
       rw [h6, cond_false] at h
       cases h7 : Nat.blt t 152 with
       | true =>
        rw [h7, cond_true] at h
        cases h8 : Nat.beq t 151 with
        | true =>
         rw [h8, cond_true] at h
         have := Nat.eq_of_beq_eq_true h8
         subst this
         obtain rfl := Option.some.inj h
         exact tok151
        | false => rw [h8, cond_false] at h; cases h
       | false =>
        rw [h7, cond_false] at h
        cases h8 : Nat.blt t 153 with
        | true =>
         rw [h8, cond_true] at h
         cases h9 : Nat.beq t 152 with
         | true =>
          rw [h9, cond_true] at h
          have := Nat.eq_of_beq_eq_true h9
          subst this
          obtain rfl := Option.some.inj h
          exact tok152
         | false => rw [h9, cond_false] at h; cases h
        | false =>
         rw [h8, cond_false] at h
         cases h9 : Nat.beq t 153 with
         | true =>
          rw [h9, cond_true] at h
          have := Nat.eq_of_beq_eq_true h9
          subst this
          obtain rfl := Option.some.inj h
          exact tok153
         | false => rw [h9, cond_false] at h; cases h
    | false =>
     rw [h4, cond_false] at h
     cases h5 : Nat.blt t 158 with
     | true =>
      rw [h5, cond_true] at h
      cases h6 : Nat.blt t 156 with
      | true =>
       rw [h6, cond_true] at h
       cases h7 : Nat.blt t 155 with
       | true =>
        rw [h7, cond_true] at h
        cases h8 : Nat.beq t 154 with
        | true =>
         rw [h8, cond_true] at h
         have := Nat.eq_of_beq_eq_true h8
         subst this
         obtain rfl := Option.some.inj h
         exact tok154
        | false => rw [h8, cond_false] at h; cases h
       | false =>
        rw [h7, cond_false] at h
        cases h8 : Nat.beq t 155 with
        | true =>
         rw [h8, cond_true] at h
         have := Nat.eq_of_beq_eq_true h8
         subst this
         obtain rfl := Option.some.inj h
         exact tok155
        | false => rw [h8, cond_false] at h; cases h
      | false =>
       rw [h6, cond_false] at h
       cases h7 : Nat.blt t 157 with
       | true =>
        rw [h7, cond_true] at h
        cases h8 : Nat.beq t 156 with
        | true =>
         rw [h8, cond_true] at h
         have := Nat.eq_of_beq_eq_true h8
         subst this
         obtain rfl := Option.some.inj h
         exact tok156
        | false => rw [h8, cond_false] at h; cases h
       | false =>
        rw [h7, cond_false] at h
        cases h8 : Nat.beq t 157 with
        | true =>
         rw [h8, cond_true] at h
         have := Nat.eq_of_beq_eq_true h8
         subst this
         obtain rfl := Option.some.inj h
         exact tok157
        | false => rw [h8, cond_false] at h; cases h
     | false =>
      rw [h5, cond_false] at h
      cases h6 : Nat.blt t 160 with
      | true =>
       rw [h6, cond_true] at h
       cases h7 : Nat.blt t 159 with
       | true =>
        rw [h7, cond_true] at h
        cases h8 : Nat.beq t 158 with
        | true =>
         rw [h8, cond_true] at h
         have := Nat.eq_of_beq_eq_true h8
         subst this
         obtain rfl := Option.some.inj h
         exact tok158
        | false => rw [h8, cond_false] at h; cases h
       | false =>
        rw [h7, cond_false] at h
        cases h8 : Nat.beq t 159 with
        | true =>
         rw [h8, cond_true] at h
         have := Nat.eq_of_beq_eq_true h8
         subst this
         obtain rfl := Option.some.inj h
         exact tok159
        | false => rw [h8, cond_false] at h; cases h
      | false =>
       rw [h6, cond_false] at h
       cases h7 : Nat.blt t 161 with
       | true =>
        rw [h7, cond_true] at h
        cases h8 : Nat.beq t 160 with
        | true =>
         rw [h8, cond_true] at h
         have := Nat.eq_of_beq_eq_true h8
         subst this
         obtain rfl := Option.some.inj h
         exact tok160
        | false => rw [h8, cond_false] at h; cases h
       | false =>
        rw [h7, cond_false] at h
        cases h8 : Nat.blt t 162 with
        | true =>
         rw [h8, cond_true] at h
         cases h9 : Nat.beq t 161 with
         | true =>
          rw [h9, cond_true] at h
          have := Nat.eq_of_beq_eq_true h9
          subst this
          obtain rfl := Option.some.inj h
          exact tok161
         | false => rw [h9, cond_false] at h; cases h
        | false =>
         rw [h8, cond_false] at h
         cases h9 : Nat.beq t 162 with
         | true =>
          rw [h9, cond_true] at h
          have := Nat.eq_of_beq_eq_true h9
          subst this
          obtain rfl := Option.some.inj h
          exact tok162
         | false => rw [h9, cond_false] at h; cases h

theorem mixed : Tryd.prog.follows .mixedOrders = true := by kernel_rfl
end Go.Proofs.YthbncljlclcecaaDoor.A
