/- The types of the program, as our machine wants them. No condition. -/
import Derived.Test.YtpkbdlocmjgmbaaProg
import Derived.Test.YtpkbdlocmjgmbaaAm16
import Derived.KernelRfl
namespace Go.Proofs.Ytpkbdlocmjgmbaa.A
open Go
set_option linter.unusedVariables false
def ti1 : TI := { size := 1, bytes := 8, zero := .nilFunc, d := .other }
theorem tok1 : TOkAt Try.prog 1 ti1 := TOkAt.mk' (by kernel_rfl) (by kernel_rfl) (fun h => by cases h)
def ti2 : TI := { size := 1, bytes := 8, zero := .int .i64 0, d := .int .i64 }
theorem tok2 : TOkAt Try.prog 2 ti2 := TOkAt.mk' (by kernel_rfl) (by kernel_rfl) (fun h => by cases h)
def ti3 : TI := { size := 1, bytes := 8, zero := .int .i64 0, d := .int .i64 }
theorem tok3 : TOkAt Try.prog 3 ti3 := TOkAt.mk' (by kernel_rfl) (by kernel_rfl) (fun h => by cases h)
def ti4 : TI := { size := 1, bytes := 1, zero := .bool false, d := .bool }
theorem tok4 : TOkAt Try.prog 4 ti4 := TOkAt.mk' (by kernel_rfl) (by kernel_rfl) (fun h => by cases h)
def ti5 : TI := { size := 1, bytes := 1, zero := .int .u8 0, d := .int .u8 }
theorem tok5 : TOkAt Try.prog 5 ti5 := TOkAt.mk' (by kernel_rfl) (by kernel_rfl) (fun h => by cases h)
def ti6 : TI := { size := 1, bytes := 1, zero := .int .u8 0, d := .int .u8 }
theorem tok6 : TOkAt Try.prog 6 ti6 := TOkAt.mk' (by kernel_rfl) (by kernel_rfl) (fun h => by cases h)
def ti7 : TI := { size := 4, bytes := 24, zero := .agg #[.int .i64 0, .int .i64 0, .bool false, .int .u8 0], d := .strct [(0, 2, false), (1, 3, false), (2, 4, false), (3, 6, false)] }
theorem tok7 : TOkAt Try.prog 7 ti7 := TOkAt.mk' (by kernel_rfl) (by kernel_rfl) (fun h => by cases h)
def ti8 : TI := { size := 4, bytes := 24, zero := .agg #[.int .i64 0, .int .i64 0, .bool false, .int .u8 0], d := .strct [(0, 2, false), (1, 3, false), (2, 4, false), (3, 6, false)] }
theorem tok8 : TOkAt Try.prog 8 ti8 := TOkAt.mk' (by kernel_rfl) (by kernel_rfl) (fun h => by cases h)
def ti9 : TI := { size := 1, bytes := 16, zero := .string ⟨#[]⟩, d := .str }
theorem tok9 : TOkAt Try.prog 9 ti9 := TOkAt.mk' (by kernel_rfl) (by kernel_rfl) (fun h => by cases h)
def ti10 : TI := { size := 1, bytes := 16, zero := .string ⟨#[]⟩, d := .str }
theorem tok10 : TOkAt Try.prog 10 ti10 := TOkAt.mk' (by kernel_rfl) (by kernel_rfl) (fun h => by cases h)
def ti11 : TI := { size := 1, bytes := 16, zero := .string ⟨#[]⟩, d := .str }
theorem tok11 : TOkAt Try.prog 11 ti11 := TOkAt.mk' (by kernel_rfl) (by kernel_rfl) (fun h => by cases h)
def ti12 : TI := { size := 1, bytes := 8, zero := .int .u64 0, d := .int .u64 }
theorem tok12 : TOkAt Try.prog 12 ti12 := TOkAt.mk' (by kernel_rfl) (by kernel_rfl) (fun h => by cases h)
def ti13 : TI := { size := 2, bytes := 24, zero := .agg #[.string ⟨#[]⟩, .int .u64 0], d := .strct [(0, 9, false), (1, 12, false)] }
theorem tok13 : TOkAt Try.prog 13 ti13 := TOkAt.mk' (by kernel_rfl) (by kernel_rfl) (fun h => by cases h)
def ti14 : TI := { size := 2, bytes := 24, zero := .agg #[.string ⟨#[]⟩, .int .u64 0], d := .strct [(0, 9, false), (1, 12, false)] }
theorem tok14 : TOkAt Try.prog 14 ti14 := TOkAt.mk' (by kernel_rfl) (by kernel_rfl) (fun h => by cases h)
def ti15 : TI := { size := 1, bytes := 8, zero := .pointer none, d := .ptr 101 }
theorem tok15 : TOkAt Try.prog 15 ti15 := TOkAt.mk' (by kernel_rfl) (by kernel_rfl) (fun h => by cases h)
def ti16 : TI := { size := 1, bytes := 8, zero := .pointer none, d := .ptr 104 }
theorem tok16 : TOkAt Try.prog 16 ti16 := TOkAt.mk' (by kernel_rfl) (by kernel_rfl) (fun h => by cases h)
def ti17 : TI := { size := 1, bytes := 8, zero := .pointer none, d := .ptr 112 }
theorem tok17 : TOkAt Try.prog 17 ti17 := TOkAt.mk' (by kernel_rfl) (by kernel_rfl) (fun h => by cases h)
def ti18 : TI := { size := 1, bytes := 8, zero := .agg #[.pointer none], d := .strct [(0, 17, false)] }
theorem tok18 : TOkAt Try.prog 18 ti18 := TOkAt.mk' (by kernel_rfl) (by kernel_rfl) (fun h => by cases h)
def ti19 : TI := { size := 1, bytes := 8, zero := .agg #[.pointer none], d := .strct [(0, 17, false)] }
theorem tok19 : TOkAt Try.prog 19 ti19 := TOkAt.mk' (by kernel_rfl) (by kernel_rfl) (fun h => by cases h)
def ti20 : TI := { size := 1, bytes := 16, zero := .nilIface, d := .iface }
theorem tok20 : TOkAt Try.prog 20 ti20 := TOkAt.mk' (by kernel_rfl) (by kernel_rfl) (fun h => by cases h)
def ti21 : TI := { size := 1, bytes := 4, zero := .int .i32 0, d := .int .i32 }
theorem tok21 : TOkAt Try.prog 21 ti21 := TOkAt.mk' (by kernel_rfl) (by kernel_rfl) (fun h => by cases h)
def ti22 : TI := { size := 1, bytes := 24, zero := .slice none 0 0, d := .slice 31 }
theorem tok22 : TOkAt Try.prog 22 ti22 := TOkAt.mk' (by kernel_rfl) (by kernel_rfl) (fun h => by cases h)
def ti23 : TI := { size := 1, bytes := 24, zero := .slice none 0 0, d := .slice 40 }
theorem tok23 : TOkAt Try.prog 23 ti23 := TOkAt.mk' (by kernel_rfl) (by kernel_rfl) (fun h => by cases h)
def ti24 : TI := { size := 1, bytes := 8, zero := .nilFunc, d := .other }
theorem tok24 : TOkAt Try.prog 24 ti24 := TOkAt.mk' (by kernel_rfl) (by kernel_rfl) (fun h => by cases h)
def ti25 : TI := { size := 1, bytes := 8, zero := .pointer none, d := .ptr 60 }
theorem tok25 : TOkAt Try.prog 25 ti25 := TOkAt.mk' (by kernel_rfl) (by kernel_rfl) (fun h => by cases h)
def ti26 : TI := { size := 1, bytes := 8, zero := .int .i64 0, d := .int .i64 }
theorem tok26 : TOkAt Try.prog 26 ti26 := TOkAt.mk' (by kernel_rfl) (by kernel_rfl) (fun h => by cases h)
def ti28 : TI := { size := 1, bytes := 8, zero := .nilFunc, d := .other }
theorem tok28 : TOkAt Try.prog 28 ti28 := TOkAt.mk' (by kernel_rfl) (by kernel_rfl) (fun h => by cases h)
def ti29 : TI := { size := 1, bytes := 8, zero := .nilFunc, d := .other }
theorem tok29 : TOkAt Try.prog 29 ti29 := TOkAt.mk' (by kernel_rfl) (by kernel_rfl) (fun h => by cases h)
def ti30 : TI := { size := 5, bytes := 64, zero := .agg #[.int .i64 0, .int .i64 0, .int .i64 0, .string ⟨#[]⟩, .slice none 0 0], d := .strct [(0, 3, false), (1, 3, false), (2, 3, false), (3, 9, false), (4, 23, false)] }
theorem tok30 : TOkAt Try.prog 30 ti30 := TOkAt.mk' (by kernel_rfl) (by kernel_rfl) (fun h => by cases h)
def ti31 : TI := { size := 5, bytes := 64, zero := .agg #[.int .i64 0, .int .i64 0, .int .i64 0, .string ⟨#[]⟩, .slice none 0 0], d := .strct [(0, 3, false), (1, 3, false), (2, 3, false), (3, 9, false), (4, 23, false)] }
theorem tok31 : TOkAt Try.prog 31 ti31 := TOkAt.mk' (by kernel_rfl) (by kernel_rfl) (fun h => by cases h)
def ti32 : TI := { size := 1, bytes := 8, zero := .nilFunc, d := .other }
theorem tok32 : TOkAt Try.prog 32 ti32 := TOkAt.mk' (by kernel_rfl) (by kernel_rfl) (fun h => by cases h)
def ti33 : TI := { size := 1, bytes := 8, zero := .nilFunc, d := .other }
theorem tok33 : TOkAt Try.prog 33 ti33 := TOkAt.mk' (by kernel_rfl) (by kernel_rfl) (fun h => by cases h)
def ti34 : TI := { size := 1, bytes := 24, zero := .slice none 0 0, d := .slice 9 }
theorem tok34 : TOkAt Try.prog 34 ti34 := TOkAt.mk' (by kernel_rfl) (by kernel_rfl) (fun h => by cases h)
def ti36 : TI := { size := 1, bytes := 8, zero := .nilFunc, d := .other }
theorem tok36 : TOkAt Try.prog 36 ti36 := TOkAt.mk' (by kernel_rfl) (by kernel_rfl) (fun h => by cases h)
def ti37 : TI := { size := 1, bytes := 8, zero := .nilFunc, d := .other }
theorem tok37 : TOkAt Try.prog 37 ti37 := TOkAt.mk' (by kernel_rfl) (by kernel_rfl) (fun h => by cases h)
def ti38 : TI := { size := 1, bytes := 8, zero := .nilFunc, d := .other }
theorem tok38 : TOkAt Try.prog 38 ti38 := TOkAt.mk' (by kernel_rfl) (by kernel_rfl) (fun h => by cases h)
def ti39 : TI := { size := 2, bytes := 16, zero := .agg #[.int .i64 0, .int .i64 0], d := .strct [(0, 3, false), (1, 3, false)], eqOk := true }
theorem tok39 : TOkAt Try.prog 39 ti39 := TOkAt.mk' (by kernel_rfl) (by kernel_rfl) (fun _ => ⟨by kernel_rfl, by kernel_rfl⟩)
def ti40 : TI := { size := 2, bytes := 16, zero := .agg #[.int .i64 0, .int .i64 0], d := .strct [(0, 3, false), (1, 3, false)], eqOk := true }
theorem tok40 : TOkAt Try.prog 40 ti40 := TOkAt.mk' (by kernel_rfl) (by kernel_rfl) (fun _ => ⟨by kernel_rfl, by kernel_rfl⟩)
def ti41 : TI := { size := 1, bytes := 24, zero := .slice none 0 0, d := .slice 3 }
theorem tok41 : TOkAt Try.prog 41 ti41 := TOkAt.mk' (by kernel_rfl) (by kernel_rfl) (fun h => by cases h)
def ti42 : TI := { size := 1, bytes := 8, zero := .nilFunc, d := .other }
theorem tok42 : TOkAt Try.prog 42 ti42 := TOkAt.mk' (by kernel_rfl) (by kernel_rfl) (fun h => by cases h)
def ti43 : TI := { size := 1, bytes := 8, zero := .nilFunc, d := .other }
theorem tok43 : TOkAt Try.prog 43 ti43 := TOkAt.mk' (by kernel_rfl) (by kernel_rfl) (fun h => by cases h)
def ti44 : TI := { size := 1, bytes := 8, zero := .pointer none, d := .ptr 51 }
theorem tok44 : TOkAt Try.prog 44 ti44 := TOkAt.mk' (by kernel_rfl) (by kernel_rfl) (fun h => by cases h)
def ti46 : TI := { size := 1, bytes := 8, zero := .nilFunc, d := .other }
theorem tok46 : TOkAt Try.prog 46 ti46 := TOkAt.mk' (by kernel_rfl) (by kernel_rfl) (fun h => by cases h)
def ti47 : TI := { size := 1, bytes := 8, zero := .nilFunc, d := .other }
theorem tok47 : TOkAt Try.prog 47 ti47 := TOkAt.mk' (by kernel_rfl) (by kernel_rfl) (fun h => by cases h)
def ti48 : TI := { size := 1, bytes := 8, zero := .nilFunc, d := .other }
theorem tok48 : TOkAt Try.prog 48 ti48 := TOkAt.mk' (by kernel_rfl) (by kernel_rfl) (fun h => by cases h)
def ti49 : TI := { size := 1, bytes := 24, zero := .slice none 0 0, d := .slice 71 }
theorem tok49 : TOkAt Try.prog 49 ti49 := TOkAt.mk' (by kernel_rfl) (by kernel_rfl) (fun h => by cases h)
def ti50 : TI := { size := 4, bytes := 48, zero := .agg #[.bool false, .int .i64 0, .int .i64 0, .slice none 0 0], d := .strct [(0, 4, false), (1, 3, false), (2, 3, false), (3, 49, false)] }
theorem tok50 : TOkAt Try.prog 50 ti50 := TOkAt.mk' (by kernel_rfl) (by kernel_rfl) (fun h => by cases h)
def ti51 : TI := { size := 4, bytes := 48, zero := .agg #[.bool false, .int .i64 0, .int .i64 0, .slice none 0 0], d := .strct [(0, 4, false), (1, 3, false), (2, 3, false), (3, 49, false)] }
theorem tok51 : TOkAt Try.prog 51 ti51 := TOkAt.mk' (by kernel_rfl) (by kernel_rfl) (fun h => by cases h)
def ti52 : TI := { size := 1, bytes := 8, zero := .nilFunc, d := .other }
theorem tok52 : TOkAt Try.prog 52 ti52 := TOkAt.mk' (by kernel_rfl) (by kernel_rfl) (fun h => by cases h)
def ti53 : TI := { size := 1, bytes := 8, zero := .nilFunc, d := .other }
theorem tok53 : TOkAt Try.prog 53 ti53 := TOkAt.mk' (by kernel_rfl) (by kernel_rfl) (fun h => by cases h)
def ti54 : TI := { size := 1, bytes := 8, zero := .nilFunc, d := .other }
theorem tok54 : TOkAt Try.prog 54 ti54 := TOkAt.mk' (by kernel_rfl) (by kernel_rfl) (fun h => by cases h)
def ti55 : TI := { size := 1, bytes := 8, zero := .nilFunc, d := .other }
theorem tok55 : TOkAt Try.prog 55 ti55 := TOkAt.mk' (by kernel_rfl) (by kernel_rfl) (fun h => by cases h)
def ti56 : TI := { size := 1, bytes := 8, zero := .nilFunc, d := .other }
theorem tok56 : TOkAt Try.prog 56 ti56 := TOkAt.mk' (by kernel_rfl) (by kernel_rfl) (fun h => by cases h)
def ti57 : TI := { size := 1, bytes := 24, zero := .slice none 0 0, d := .slice 34 }
theorem tok57 : TOkAt Try.prog 57 ti57 := TOkAt.mk' (by kernel_rfl) (by kernel_rfl) (fun h => by cases h)
def ti58 : TI := { size := 1, bytes := 24, zero := .slice none 0 0, d := .slice 61 }
theorem tok58 : TOkAt Try.prog 58 ti58 := TOkAt.mk' (by kernel_rfl) (by kernel_rfl) (fun h => by cases h)
def ti59 : TI := { size := 4, bytes := 64, zero := .agg #[.bool false, .int .i64 0, .slice none 0 0, .slice none 0 0], d := .strct [(0, 4, false), (1, 3, false), (2, 57, false), (3, 58, false)] }
theorem tok59 : TOkAt Try.prog 59 ti59 := TOkAt.mk' (by kernel_rfl) (by kernel_rfl) (fun h => by cases h)
def ti60 : TI := { size := 4, bytes := 64, zero := .agg #[.bool false, .int .i64 0, .slice none 0 0, .slice none 0 0], d := .strct [(0, 4, false), (1, 3, false), (2, 57, false), (3, 58, false)] }
theorem tok60 : TOkAt Try.prog 60 ti60 := TOkAt.mk' (by kernel_rfl) (by kernel_rfl) (fun h => by cases h)
def ti61 : TI := { size := 1, bytes := 8, zero := .map none, d := .map 3 9 }
theorem tok61 : TOkAt Try.prog 61 ti61 := TOkAt.mk' (by kernel_rfl) (by kernel_rfl) (fun h => by cases h)
def ti62 : TI := { size := 1, bytes := 8, zero := .nilFunc, d := .other }
theorem tok62 : TOkAt Try.prog 62 ti62 := TOkAt.mk' (by kernel_rfl) (by kernel_rfl) (fun h => by cases h)
def ti64 : TI := { size := 1, bytes := 8, zero := .nilFunc, d := .other }
theorem tok64 : TOkAt Try.prog 64 ti64 := TOkAt.mk' (by kernel_rfl) (by kernel_rfl) (fun h => by cases h)
def ti65 : TI := { size := 1, bytes := 8, zero := .nilFunc, d := .other }
theorem tok65 : TOkAt Try.prog 65 ti65 := TOkAt.mk' (by kernel_rfl) (by kernel_rfl) (fun h => by cases h)
def ti66 : TI := { size := 1, bytes := 8, zero := .nilFunc, d := .other }
theorem tok66 : TOkAt Try.prog 66 ti66 := TOkAt.mk' (by kernel_rfl) (by kernel_rfl) (fun h => by cases h)
def ti67 : TI := { size := 1, bytes := 8, zero := .nilFunc, d := .other }
theorem tok67 : TOkAt Try.prog 67 ti67 := TOkAt.mk' (by kernel_rfl) (by kernel_rfl) (fun h => by cases h)
def ti68 : TI := { size := 1, bytes := 8, zero := .nilFunc, d := .other }
theorem tok68 : TOkAt Try.prog 68 ti68 := TOkAt.mk' (by kernel_rfl) (by kernel_rfl) (fun h => by cases h)
def ti69 : TI := { size := 1, bytes := 8, zero := .nilFunc, d := .other }
theorem tok69 : TOkAt Try.prog 69 ti69 := TOkAt.mk' (by kernel_rfl) (by kernel_rfl) (fun h => by cases h)
def ti70 : TI := { size := 3, bytes := 40, zero := .agg #[.string ⟨#[]⟩, .string ⟨#[]⟩, .bool false], d := .strct [(0, 9, false), (1, 9, false), (2, 4, false)], eqOk := true }
theorem tok70 : TOkAt Try.prog 70 ti70 := TOkAt.mk' (by kernel_rfl) (by kernel_rfl) (fun _ => ⟨by kernel_rfl, by kernel_rfl⟩)
def ti71 : TI := { size := 3, bytes := 40, zero := .agg #[.string ⟨#[]⟩, .string ⟨#[]⟩, .bool false], d := .strct [(0, 9, false), (1, 9, false), (2, 4, false)], eqOk := true }
theorem tok71 : TOkAt Try.prog 71 ti71 := TOkAt.mk' (by kernel_rfl) (by kernel_rfl) (fun _ => ⟨by kernel_rfl, by kernel_rfl⟩)
def ti72 : TI := { size := 1, bytes := 8, zero := .nilFunc, d := .other }
theorem tok72 : TOkAt Try.prog 72 ti72 := TOkAt.mk' (by kernel_rfl) (by kernel_rfl) (fun h => by cases h)
def ti73 : TI := { size := 1, bytes := 8, zero := .nilFunc, d := .other }
theorem tok73 : TOkAt Try.prog 73 ti73 := TOkAt.mk' (by kernel_rfl) (by kernel_rfl) (fun h => by cases h)
def ti74 : TI := { size := 1, bytes := 8, zero := .nilFunc, d := .other }
theorem tok74 : TOkAt Try.prog 74 ti74 := TOkAt.mk' (by kernel_rfl) (by kernel_rfl) (fun h => by cases h)
def ti75 : TI := { size := 1, bytes := 8, zero := .nilFunc, d := .other }
theorem tok75 : TOkAt Try.prog 75 ti75 := TOkAt.mk' (by kernel_rfl) (by kernel_rfl) (fun h => by cases h)
def ti76 : TI := { size := 1, bytes := 8, zero := .int .u64 0, d := .int .u64 }
theorem tok76 : TOkAt Try.prog 76 ti76 := TOkAt.mk' (by kernel_rfl) (by kernel_rfl) (fun h => by cases h)
def ti77 : TI := { size := 1, bytes := 8, zero := .nilFunc, d := .other }
theorem tok77 : TOkAt Try.prog 77 ti77 := TOkAt.mk' (by kernel_rfl) (by kernel_rfl) (fun h => by cases h)
def ti78 : TI := { size := 1, bytes := 8, zero := .int .i64 0, d := .int .i64 }
theorem tok78 : TOkAt Try.prog 78 ti78 := TOkAt.mk' (by kernel_rfl) (by kernel_rfl) (fun h => by cases h)
def ti80 : TI := { size := 1, bytes := 8, zero := .nilFunc, d := .other }
theorem tok80 : TOkAt Try.prog 80 ti80 := TOkAt.mk' (by kernel_rfl) (by kernel_rfl) (fun h => by cases h)
def ti81 : TI := { size := 1, bytes := 8, zero := .nilFunc, d := .other }
theorem tok81 : TOkAt Try.prog 81 ti81 := TOkAt.mk' (by kernel_rfl) (by kernel_rfl) (fun h => by cases h)
def ti82 : TI := { size := 1, bytes := 8, zero := .nilFunc, d := .other }
theorem tok82 : TOkAt Try.prog 82 ti82 := TOkAt.mk' (by kernel_rfl) (by kernel_rfl) (fun h => by cases h)
def ti83 : TI := { size := 1, bytes := 8, zero := .nilFunc, d := .other }
theorem tok83 : TOkAt Try.prog 83 ti83 := TOkAt.mk' (by kernel_rfl) (by kernel_rfl) (fun h => by cases h)
def ti85 : TI := { size := 1, bytes := 8, zero := .nilFunc, d := .other }
theorem tok85 : TOkAt Try.prog 85 ti85 := TOkAt.mk' (by kernel_rfl) (by kernel_rfl) (fun h => by cases h)
def ti86 : TI := { size := 1, bytes := 8, zero := .nilFunc, d := .other }
theorem tok86 : TOkAt Try.prog 86 ti86 := TOkAt.mk' (by kernel_rfl) (by kernel_rfl) (fun h => by cases h)
def ti87 : TI := { size := 1, bytes := 4, zero := .int .u32 0, d := .int .u32 }
theorem tok87 : TOkAt Try.prog 87 ti87 := TOkAt.mk' (by kernel_rfl) (by kernel_rfl) (fun h => by cases h)
def ti88 : TI := { size := 1, bytes := 8, zero := .nilFunc, d := .other }
theorem tok88 : TOkAt Try.prog 88 ti88 := TOkAt.mk' (by kernel_rfl) (by kernel_rfl) (fun h => by cases h)
def ti89 : TI := { size := 1, bytes := 8, zero := .int .u64 0, d := .int .u64 }
theorem tok89 : TOkAt Try.prog 89 ti89 := TOkAt.mk' (by kernel_rfl) (by kernel_rfl) (fun h => by cases h)
def ti90 : TI := { size := 1, bytes := 8, zero := .int .u64 0, d := .int .u64 }
theorem tok90 : TOkAt Try.prog 90 ti90 := TOkAt.mk' (by kernel_rfl) (by kernel_rfl) (fun h => by cases h)
def ti91 : TI := { size := 1, bytes := 8, zero := .nilFunc, d := .other }
theorem tok91 : TOkAt Try.prog 91 ti91 := TOkAt.mk' (by kernel_rfl) (by kernel_rfl) (fun h => by cases h)
def ti92 : TI := { size := 1, bytes := 8, zero := .nilFunc, d := .other }
theorem tok92 : TOkAt Try.prog 92 ti92 := TOkAt.mk' (by kernel_rfl) (by kernel_rfl) (fun h => by cases h)
def ti93 : TI := { size := 1, bytes := 8, zero := .nilFunc, d := .other }
theorem tok93 : TOkAt Try.prog 93 ti93 := TOkAt.mk' (by kernel_rfl) (by kernel_rfl) (fun h => by cases h)
def ti94 : TI := { size := 1, bytes := 8, zero := .pointer none, d := .ptr 3 }
theorem tok94 : TOkAt Try.prog 94 ti94 := TOkAt.mk' (by kernel_rfl) (by kernel_rfl) (fun h => by cases h)
def ti95 : TI := { size := 1, bytes := 8, zero := .nilFunc, d := .other }
theorem tok95 : TOkAt Try.prog 95 ti95 := TOkAt.mk' (by kernel_rfl) (by kernel_rfl) (fun h => by cases h)
def ti96 : TI := { size := 1, bytes := 8, zero := .pointer none, d := .ptr 90 }
theorem tok96 : TOkAt Try.prog 96 ti96 := TOkAt.mk' (by kernel_rfl) (by kernel_rfl) (fun h => by cases h)
def ti98 : TI := { size := 1, bytes := 8, zero := .nilFunc, d := .other }
theorem tok98 : TOkAt Try.prog 98 ti98 := TOkAt.mk' (by kernel_rfl) (by kernel_rfl) (fun h => by cases h)
def ti99 : TI := { size := 1, bytes := 8, zero := .nilFunc, d := .other }
theorem tok99 : TOkAt Try.prog 99 ti99 := TOkAt.mk' (by kernel_rfl) (by kernel_rfl) (fun h => by cases h)
def ti100 : TI := { size := 4, bytes := 40, zero := .agg #[.pointer none, .pointer none, .pointer none, .string ⟨#[]⟩], d := .strct [(0, 17, false), (1, 17, false), (2, 17, false), (3, 9, false)] }
theorem tok100 : TOkAt Try.prog 100 ti100 := TOkAt.mk' (by kernel_rfl) (by kernel_rfl) (fun h => by cases h)
def ti101 : TI := { size := 4, bytes := 40, zero := .agg #[.pointer none, .pointer none, .pointer none, .string ⟨#[]⟩], d := .strct [(0, 17, false), (1, 17, false), (2, 17, false), (3, 9, false)] }
theorem tok101 : TOkAt Try.prog 101 ti101 := TOkAt.mk' (by kernel_rfl) (by kernel_rfl) (fun h => by cases h)
def ti102 : TI := { size := 0, bytes := 0, zero := .agg #[], d := .arr 0 16 }
theorem tok102 : TOkAt Try.prog 102 ti102 := TOkAt.mk' (by kernel_rfl) (by kernel_rfl) (fun h => by cases h)
def ti103 : TI := { size := 0, bytes := 0, zero := .agg #[], d := .strct [(0, 102, true)] }
theorem tok103 : TOkAt Try.prog 103 ti103 := TOkAt.mk' (by kernel_rfl) (by kernel_rfl) (fun h => by cases h)
def ti104 : TI := { size := 0, bytes := 0, zero := .agg #[], d := .strct [(0, 102, true)] }
theorem tok104 : TOkAt Try.prog 104 ti104 := TOkAt.mk' (by kernel_rfl) (by kernel_rfl) (fun h => by cases h)
def ti105 : TI := { size := 1, bytes := 1, zero := .int .u8 0, d := .int .u8 }
theorem tok105 : TOkAt Try.prog 105 ti105 := TOkAt.mk' (by kernel_rfl) (by kernel_rfl) (fun h => by cases h)
def ti106 : TI := { size := 1, bytes := 1, zero := .int .u8 0, d := .int .u8 }
theorem tok106 : TOkAt Try.prog 106 ti106 := TOkAt.mk' (by kernel_rfl) (by kernel_rfl) (fun h => by cases h)
def ti107 : TI := { size := 1, bytes := 8, zero := .nilFunc, d := .other }
theorem tok107 : TOkAt Try.prog 107 ti107 := TOkAt.mk' (by kernel_rfl) (by kernel_rfl) (fun h => by cases h)
def ti108 : TI := { size := 1, bytes := 8, zero := .pointer none, d := .ptr 5 }
theorem tok108 : TOkAt Try.prog 108 ti108 := TOkAt.mk' (by kernel_rfl) (by kernel_rfl) (fun h => by cases h)
def ti109 : TI := { size := 1, bytes := 4, zero := .int .i32 0, d := .int .i32 }
theorem tok109 : TOkAt Try.prog 109 ti109 := TOkAt.mk' (by kernel_rfl) (by kernel_rfl) (fun h => by cases h)
def ti110 : TI := { size := 1, bytes := 4, zero := .int .i32 0, d := .int .i32 }
theorem tok110 : TOkAt Try.prog 110 ti110 := TOkAt.mk' (by kernel_rfl) (by kernel_rfl) (fun h => by cases h)
def ti111 : TI := { size := 11, bytes := 48, zero := .agg #[.int .u64 0, .int .u64 0, .int .u32 0, .int .u8 0, .int .u8 0, .int .u8 0, .int .u8 0, .nilFunc, .pointer none, .int .i32 0, .int .i32 0], d := .strct [(0, 12, false), (1, 12, false), (2, 87, false), (3, 105, false), (4, 5, false), (5, 5, false), (6, 106, false), (7, 107, false), (8, 108, false), (9, 109, false), (10, 110, false)] }
theorem tok111 : TOkAt Try.prog 111 ti111 := TOkAt.mk' (by kernel_rfl) (by kernel_rfl) (fun h => by cases h)
def ti112 : TI := { size := 11, bytes := 48, zero := .agg #[.int .u64 0, .int .u64 0, .int .u32 0, .int .u8 0, .int .u8 0, .int .u8 0, .int .u8 0, .nilFunc, .pointer none, .int .i32 0, .int .i32 0], d := .strct [(0, 12, false), (1, 12, false), (2, 87, false), (3, 105, false), (4, 5, false), (5, 5, false), (6, 106, false), (7, 107, false), (8, 108, false), (9, 109, false), (10, 110, false)] }
theorem tok112 : TOkAt Try.prog 112 ti112 := TOkAt.mk' (by kernel_rfl) (by kernel_rfl) (fun h => by cases h)
def T : Tab := fun t => bif Nat.blt t 56 then (bif Nat.blt t 28 then (bif Nat.blt t 14 then (bif Nat.blt t 7 then (bif Nat.blt t 4 then (bif Nat.blt t 2 then (bif Nat.beq t 1 then some ti1 else none) else (bif Nat.blt t 3 then (bif Nat.beq t 2 then some ti2 else none) else (bif Nat.beq t 3 then some ti3 else none))) else (bif Nat.blt t 5 then (bif Nat.beq t 4 then some ti4 else none) else (bif Nat.blt t 6 then (bif Nat.beq t 5 then some ti5 else none) else (bif Nat.beq t 6 then some ti6 else none)))) else (bif Nat.blt t 10 then (bif Nat.blt t 8 then (bif Nat.beq t 7 then some ti7 else none) else (bif Nat.blt t 9 then (bif Nat.beq t 8 then some ti8 else none) else (bif Nat.beq t 9 then some ti9 else none))) else (bif Nat.blt t 12 then (bif Nat.blt t 11 then (bif Nat.beq t 10 then some ti10 else none) else (bif Nat.beq t 11 then some ti11 else none)) else (bif Nat.blt t 13 then (bif Nat.beq t 12 then some ti12 else none) else (bif Nat.beq t 13 then some ti13 else none))))) else (bif Nat.blt t 20 then (bif Nat.blt t 17 then (bif Nat.blt t 15 then (bif Nat.beq t 14 then some ti14 else none) else (bif Nat.blt t 16 then (bif Nat.beq t 15 then some ti15 else none) else (bif Nat.beq t 16 then some ti16 else none))) else (bif Nat.blt t 18 then (bif Nat.beq t 17 then some ti17 else none) else (bif Nat.blt t 19 then (bif Nat.beq t 18 then some ti18 else none) else (bif Nat.beq t 19 then some ti19 else none)))) else (bif Nat.blt t 23 then (bif Nat.blt t 21 then (bif Nat.beq t 20 then some ti20 else none) else (bif Nat.blt t 22 then (bif Nat.beq t 21 then some ti21 else none) else (bif Nat.beq t 22 then some ti22 else none))) else (bif Nat.blt t 25 then (bif Nat.blt t 24 then (bif Nat.beq t 23 then some ti23 else none) else (bif Nat.beq t 24 then some ti24 else none)) else (bif Nat.blt t 26 then (bif Nat.beq t 25 then some ti25 else none) else (bif Nat.beq t 26 then some ti26 else none)))))) else (bif Nat.blt t 42 then (bif Nat.blt t 34 then (bif Nat.blt t 31 then (bif Nat.blt t 29 then (bif Nat.beq t 28 then some ti28 else none) else (bif Nat.blt t 30 then (bif Nat.beq t 29 then some ti29 else none) else (bif Nat.beq t 30 then some ti30 else none))) else (bif Nat.blt t 32 then (bif Nat.beq t 31 then some ti31 else none) else (bif Nat.blt t 33 then (bif Nat.beq t 32 then some ti32 else none) else (bif Nat.beq t 33 then some ti33 else none)))) else (bif Nat.blt t 38 then (bif Nat.blt t 36 then (bif Nat.beq t 34 then some ti34 else none) else (bif Nat.blt t 37 then (bif Nat.beq t 36 then some ti36 else none) else (bif Nat.beq t 37 then some ti37 else none))) else (bif Nat.blt t 40 then (bif Nat.blt t 39 then (bif Nat.beq t 38 then some ti38 else none) else (bif Nat.beq t 39 then some ti39 else none)) else (bif Nat.blt t 41 then (bif Nat.beq t 40 then some ti40 else none) else (bif Nat.beq t 41 then some ti41 else none))))) else (bif Nat.blt t 49 then (bif Nat.blt t 46 then (bif Nat.blt t 43 then (bif Nat.beq t 42 then some ti42 else none) else (bif Nat.blt t 44 then (bif Nat.beq t 43 then some ti43 else none) else (bif Nat.beq t 44 then some ti44 else none))) else (bif Nat.blt t 47 then (bif Nat.beq t 46 then some ti46 else none) else (bif Nat.blt t 48 then (bif Nat.beq t 47 then some ti47 else none) else (bif Nat.beq t 48 then some ti48 else none)))) else (bif Nat.blt t 52 then (bif Nat.blt t 50 then (bif Nat.beq t 49 then some ti49 else none) else (bif Nat.blt t 51 then (bif Nat.beq t 50 then some ti50 else none) else (bif Nat.beq t 51 then some ti51 else none))) else (bif Nat.blt t 54 then (bif Nat.blt t 53 then (bif Nat.beq t 52 then some ti52 else none) else (bif Nat.beq t 53 then some ti53 else none)) else (bif Nat.blt t 55 then (bif Nat.beq t 54 then some ti54 else none) else (bif Nat.beq t 55 then some ti55 else none))))))) else (bif Nat.blt t 85 then (bif Nat.blt t 70 then (bif Nat.blt t 62 then (bif Nat.blt t 59 then (bif Nat.blt t 57 then (bif Nat.beq t 56 then some ti56 else none) else (bif Nat.blt t 58 then (bif Nat.beq t 57 then some ti57 else none) else (bif Nat.beq t 58 then some ti58 else none))) else (bif Nat.blt t 60 then (bif Nat.beq t 59 then some ti59 else none) else (bif Nat.blt t 61 then (bif Nat.beq t 60 then some ti60 else none) else (bif Nat.beq t 61 then some ti61 else none)))) else (bif Nat.blt t 66 then (bif Nat.blt t 64 then (bif Nat.beq t 62 then some ti62 else none) else (bif Nat.blt t 65 then (bif Nat.beq t 64 then some ti64 else none) else (bif Nat.beq t 65 then some ti65 else none))) else (bif Nat.blt t 68 then (bif Nat.blt t 67 then (bif Nat.beq t 66 then some ti66 else none) else (bif Nat.beq t 67 then some ti67 else none)) else (bif Nat.blt t 69 then (bif Nat.beq t 68 then some ti68 else none) else (bif Nat.beq t 69 then some ti69 else none))))) else (bif Nat.blt t 76 then (bif Nat.blt t 73 then (bif Nat.blt t 71 then (bif Nat.beq t 70 then some ti70 else none) else (bif Nat.blt t 72 then (bif Nat.beq t 71 then some ti71 else none) else (bif Nat.beq t 72 then some ti72 else none))) else (bif Nat.blt t 74 then (bif Nat.beq t 73 then some ti73 else none) else (bif Nat.blt t 75 then (bif Nat.beq t 74 then some ti74 else none) else (bif Nat.beq t 75 then some ti75 else none)))) else (bif Nat.blt t 80 then (bif Nat.blt t 77 then (bif Nat.beq t 76 then some ti76 else none) else (bif Nat.blt t 78 then (bif Nat.beq t 77 then some ti77 else none) else (bif Nat.beq t 78 then some ti78 else none))) else (bif Nat.blt t 82 then (bif Nat.blt t 81 then (bif Nat.beq t 80 then some ti80 else none) else (bif Nat.beq t 81 then some ti81 else none)) else (bif Nat.blt t 83 then (bif Nat.beq t 82 then some ti82 else none) else (bif Nat.beq t 83 then some ti83 else none)))))) else (bif Nat.blt t 99 then (bif Nat.blt t 91 then (bif Nat.blt t 88 then (bif Nat.blt t 86 then (bif Nat.beq t 85 then some ti85 else none) else (bif Nat.blt t 87 then (bif Nat.beq t 86 then some ti86 else none) else (bif Nat.beq t 87 then some ti87 else none))) else (bif Nat.blt t 89 then (bif Nat.beq t 88 then some ti88 else none) else (bif Nat.blt t 90 then (bif Nat.beq t 89 then some ti89 else none) else (bif Nat.beq t 90 then some ti90 else none)))) else (bif Nat.blt t 94 then (bif Nat.blt t 92 then (bif Nat.beq t 91 then some ti91 else none) else (bif Nat.blt t 93 then (bif Nat.beq t 92 then some ti92 else none) else (bif Nat.beq t 93 then some ti93 else none))) else (bif Nat.blt t 96 then (bif Nat.blt t 95 then (bif Nat.beq t 94 then some ti94 else none) else (bif Nat.beq t 95 then some ti95 else none)) else (bif Nat.blt t 98 then (bif Nat.beq t 96 then some ti96 else none) else (bif Nat.beq t 98 then some ti98 else none))))) else (bif Nat.blt t 106 then (bif Nat.blt t 102 then (bif Nat.blt t 100 then (bif Nat.beq t 99 then some ti99 else none) else (bif Nat.blt t 101 then (bif Nat.beq t 100 then some ti100 else none) else (bif Nat.beq t 101 then some ti101 else none))) else (bif Nat.blt t 104 then (bif Nat.blt t 103 then (bif Nat.beq t 102 then some ti102 else none) else (bif Nat.beq t 103 then some ti103 else none)) else (bif Nat.blt t 105 then (bif Nat.beq t 104 then some ti104 else none) else (bif Nat.beq t 105 then some ti105 else none)))) else (bif Nat.blt t 109 then (bif Nat.blt t 107 then (bif Nat.beq t 106 then some ti106 else none) else (bif Nat.blt t 108 then (bif Nat.beq t 107 then some ti107 else none) else (bif Nat.beq t 108 then some ti108 else none))) else (bif Nat.blt t 111 then (bif Nat.blt t 110 then (bif Nat.beq t 109 then some ti109 else none) else (bif Nat.beq t 110 then some ti110 else none)) else (bif Nat.blt t 112 then (bif Nat.beq t 111 then some ti111 else none) else (bif Nat.beq t 112 then some ti112 else none)))))))
theorem hT : TOk Try.prog T := by
 intro t i h
 unfold T at h
 cases h1 : Nat.blt t 56 with
 | true =>
  rw [h1, cond_true] at h
  cases h2 : Nat.blt t 28 with
  | true =>
   rw [h2, cond_true] at h
   cases h3 : Nat.blt t 14 with
   | true =>
    rw [h3, cond_true] at h
    cases h4 : Nat.blt t 7 with
    | true =>
     rw [h4, cond_true] at h
     cases h5 : Nat.blt t 4 with
     | true =>
      rw [h5, cond_true] at h
      cases h6 : Nat.blt t 2 with
      | true =>
       rw [h6, cond_true] at h
       cases h7 : Nat.beq t 1 with
       | true =>
        rw [h7, cond_true] at h
        have := Nat.eq_of_beq_eq_true h7
        subst this
        obtain rfl := Option.some.inj h
        exact tok1
       | false => rw [h7, cond_false] at h; cases h
      | false =>
       rw [h6, cond_false] at h
       cases h7 : Nat.blt t 3 with
       | true =>
        rw [h7, cond_true] at h
        cases h8 : Nat.beq t 2 with
        | true =>
         rw [h8, cond_true] at h
         have := Nat.eq_of_beq_eq_true h8
         subst this
         obtain rfl := Option.some.inj h
         exact tok2
        | false => rw [h8, cond_false] at h; cases h
       | false =>
        rw [h7, cond_false] at h
        cases h8 : Nat.beq t 3 with
        | true =>
         rw [h8, cond_true] at h
         have := Nat.eq_of_beq_eq_true h8
         subst this
         obtain rfl := Option.some.inj h
         exact tok3
        | false => rw [h8, cond_false] at h; cases h
     | false =>
      rw [h5, cond_false] at h
      cases h6 : Nat.blt t 5 with
      | true =>
       rw [h6, cond_true] at h
       cases h7 : Nat.beq t 4 with
       | true =>
        rw [h7, cond_true] at h
        have := Nat.eq_of_beq_eq_true h7
        subst this
        obtain rfl := Option.some.inj h
        exact tok4
       | false => rw [h7, cond_false] at h; cases h
      | false =>
       rw [h6, cond_false] at h
       cases h7 : Nat.blt t 6 with
       | true =>
        rw [h7, cond_true] at h
        cases h8 : Nat.beq t 5 with
        | true =>
         rw [h8, cond_true] at h
         have := Nat.eq_of_beq_eq_true h8
         subst this
         obtain rfl := Option.some.inj h
         exact tok5
        | false => rw [h8, cond_false] at h; cases h
       | false =>
        rw [h7, cond_false] at h
        cases h8 : Nat.beq t 6 with
        | true =>
         rw [h8, cond_true] at h
         have := Nat.eq_of_beq_eq_true h8
         subst this
         obtain rfl := Option.some.inj h
         exact tok6
        | false => rw [h8, cond_false] at h; cases h
    | false =>
     rw [h4, cond_false] at h
     cases h5 : Nat.blt t 10 with
     | true =>
      rw [h5, cond_true] at h
      cases h6 : Nat.blt t 8 with
      | true =>
       rw [h6, cond_true] at h
       cases h7 : Nat.beq t 7 with
       | true =>
        rw [h7, cond_true] at h
        have := Nat.eq_of_beq_eq_true h7
        subst this
        obtain rfl := Option.some.inj h
        exact tok7
       | false => rw [h7, cond_false] at h; cases h
      | false =>
       rw [h6, cond_false] at h
       cases h7 : Nat.blt t 9 with
       | true =>
        rw [h7, cond_true] at h
        cases h8 : Nat.beq t 8 with
        | true =>
         rw [h8, cond_true] at h
         have := Nat.eq_of_beq_eq_true h8
         subst this
         obtain rfl := Option.some.inj h
         exact tok8
        | false => rw [h8, cond_false] at h; cases h
       | false =>
        rw [h7, cond_false] at h
        cases h8 : Nat.beq t 9 with
        | true =>
         rw [h8, cond_true] at h
         have := Nat.eq_of_beq_eq_true h8
         subst this
         obtain rfl := Option.some.inj h
         exact tok9
        | false => rw [h8, cond_false] at h; cases h
     | false =>
      rw [h5, cond_false] at h
      cases h6 : Nat.blt t 12 with
      | true =>
       rw [h6, cond_true] at h
       cases h7 : Nat.blt t 11 with
       | true =>
        rw [h7, cond_true] at h
        cases h8 : Nat.beq t 10 with
        | true =>
         rw [h8, cond_true] at h
         have := Nat.eq_of_beq_eq_true h8
         subst this
         obtain rfl := Option.some.inj h
         exact tok10
        | false => rw [h8, cond_false] at h; cases h
       | false =>
        rw [h7, cond_false] at h
        cases h8 : Nat.beq t 11 with
        | true =>
         rw [h8, cond_true] at h
         have := Nat.eq_of_beq_eq_true h8
         subst this
         obtain rfl := Option.some.inj h
         exact tok11
        | false => rw [h8, cond_false] at h; cases h
      | false =>
       rw [h6, cond_false] at h
       cases h7 : Nat.blt t 13 with
       | true =>
        rw [h7, cond_true] at h
        cases h8 : Nat.beq t 12 with
        | true =>
         rw [h8, cond_true] at h
         have := Nat.eq_of_beq_eq_true h8
         subst this
         obtain rfl := Option.some.inj h
         exact tok12
        | false => rw [h8, cond_false] at h; cases h
       | false =>
        rw [h7, cond_false] at h
        cases h8 : Nat.beq t 13 with
        | true =>
         rw [h8, cond_true] at h
         have := Nat.eq_of_beq_eq_true h8
         subst this
         obtain rfl := Option.some.inj h
         exact tok13
        | false => rw [h8, cond_false] at h; cases h
   | false =>
    rw [h3, cond_false] at h
    cases h4 : Nat.blt t 20 with
    | true =>
     rw [h4, cond_true] at h
     cases h5 : Nat.blt t 17 with
     | true =>
      rw [h5, cond_true] at h
      cases h6 : Nat.blt t 15 with
      | true =>
       rw [h6, cond_true] at h
       cases h7 : Nat.beq t 14 with
       | true =>
        rw [h7, cond_true] at h
        have := Nat.eq_of_beq_eq_true h7
        subst this
        obtain rfl := Option.some.inj h
        exact tok14
       | false => rw [h7, cond_false] at h; cases h
      | false =>
       rw [h6, cond_false] at h
       cases h7 : Nat.blt t 16 with
       | true =>
        rw [h7, cond_true] at h
        cases h8 : Nat.beq t 15 with
        | true =>
         rw [h8, cond_true] at h
         have := Nat.eq_of_beq_eq_true h8
         subst this
         obtain rfl := Option.some.inj h
         exact tok15
        | false => rw [h8, cond_false] at h; cases h
       | false =>
        rw [h7, cond_false] at h
        cases h8 : Nat.beq t 16 with
        | true =>
         rw [h8, cond_true] at h
         have := Nat.eq_of_beq_eq_true h8
         subst this
         obtain rfl := Option.some.inj h
         exact tok16
        | false => rw [h8, cond_false] at h; cases h
     | false =>
      rw [h5, cond_false] at h
      cases h6 : Nat.blt t 18 with
      | true =>
       rw [h6, cond_true] at h
       cases h7 : Nat.beq t 17 with
       | true =>
        rw [h7, cond_true] at h
        have := Nat.eq_of_beq_eq_true h7
        subst this
        obtain rfl := Option.some.inj h
        exact tok17
       | false => rw [h7, cond_false] at h; cases h
      | false =>
       rw [h6, cond_false] at h
       cases h7 : Nat.blt t 19 with
       | true =>
        rw [h7, cond_true] at h
        cases h8 : Nat.beq t 18 with
        | true =>
         rw [h8, cond_true] at h
         have := Nat.eq_of_beq_eq_true h8
         subst this
         obtain rfl := Option.some.inj h
         exact tok18
        | false => rw [h8, cond_false] at h; cases h
       | false =>
        rw [h7, cond_false] at h
        cases h8 : Nat.beq t 19 with
        | true =>
         rw [h8, cond_true] at h
         have := Nat.eq_of_beq_eq_true h8
         subst this
         obtain rfl := Option.some.inj h
         exact tok19
        | false => rw [h8, cond_false] at h; cases h
    | false =>
     rw [h4, cond_false] at h
     cases h5 : Nat.blt t 23 with
     | true =>
      rw [h5, cond_true] at h
      cases h6 : Nat.blt t 21 with
      | true =>
       rw [h6, cond_true] at h
       cases h7 : Nat.beq t 20 with
       | true =>
        rw [h7, cond_true] at h
        have := Nat.eq_of_beq_eq_true h7
        subst this
        obtain rfl := Option.some.inj h
        exact tok20
       | false => rw [h7, cond_false] at h; cases h
      | false =>
       rw [h6, cond_false] at h
       cases h7 : Nat.blt t 22 with
       | true =>
        rw [h7, cond_true] at h
        cases h8 : Nat.beq t 21 with
        | true =>
         rw [h8, cond_true] at h
         have := Nat.eq_of_beq_eq_true h8
         subst this
         obtain rfl := Option.some.inj h
         exact tok21
        | false => rw [h8, cond_false] at h; cases h
       | false =>
        rw [h7, cond_false] at h
        cases h8 : Nat.beq t 22 with
        | true =>
         rw [h8, cond_true] at h
         have := Nat.eq_of_beq_eq_true h8
         subst this
         obtain rfl := Option.some.inj h
         exact tok22
        | false => rw [h8, cond_false] at h; cases h
     | false =>
      rw [h5, cond_false] at h
      cases h6 : Nat.blt t 25 with
      | true =>
       rw [h6, cond_true] at h
       cases h7 : Nat.blt t 24 with
       | true =>
        rw [h7, cond_true] at h
        cases h8 : Nat.beq t 23 with
        | true =>
         rw [h8, cond_true] at h
         have := Nat.eq_of_beq_eq_true h8
         subst this
         obtain rfl := Option.some.inj h
         exact tok23
        | false => rw [h8, cond_false] at h; cases h
       | false =>
        rw [h7, cond_false] at h
        cases h8 : Nat.beq t 24 with
        | true =>
         rw [h8, cond_true] at h
         have := Nat.eq_of_beq_eq_true h8
         subst this
         obtain rfl := Option.some.inj h
         exact tok24
        | false => rw [h8, cond_false] at h; cases h
      | false =>
       rw [h6, cond_false] at h
       cases h7 : Nat.blt t 26 with
       | true =>
        rw [h7, cond_true] at h
        cases h8 : Nat.beq t 25 with
        | true =>
         rw [h8, cond_true] at h
         have := Nat.eq_of_beq_eq_true h8
         subst this
         obtain rfl := Option.some.inj h
         exact tok25
        | false => rw [h8, cond_false] at h; cases h
       | false =>
        rw [h7, cond_false] at h
        cases h8 : Nat.beq t 26 with
        | true =>
         rw [h8, cond_true] at h
         have := Nat.eq_of_beq_eq_true h8
         subst this
         obtain rfl := Option.some.inj h
         exact tok26
        | false => rw [h8, cond_false] at h; cases h
  | false =>
   rw [h2, cond_false] at h
   cases h3 : Nat.blt t 42 with
   | true =>
    rw [h3, cond_true] at h
    cases h4 : Nat.blt t 34 with
    | true =>
     rw [h4, cond_true] at h
     cases h5 : Nat.blt t 31 with
     | true =>
      rw [h5, cond_true] at h
      cases h6 : Nat.blt t 29 with
      | true =>
       rw [h6, cond_true] at h
       cases h7 : Nat.beq t 28 with
       | true =>
        rw [h7, cond_true] at h
        have := Nat.eq_of_beq_eq_true h7
        subst this
        obtain rfl := Option.some.inj h
        exact tok28
       | false => rw [h7, cond_false] at h; cases h
      | false =>
       rw [h6, cond_false] at h
       cases h7 : Nat.blt t 30 with
       | true =>
        rw [h7, cond_true] at h
        cases h8 : Nat.beq t 29 with
        | true =>
         rw [h8, cond_true] at h
         have := Nat.eq_of_beq_eq_true h8
         subst this
         obtain rfl := Option.some.inj h
         exact tok29
        | false => rw [h8, cond_false] at h; cases h
       | false =>
        rw [h7, cond_false] at h
        cases h8 : Nat.beq t 30 with
        | true =>
         rw [h8, cond_true] at h
         have := Nat.eq_of_beq_eq_true h8
         subst this
         obtain rfl := Option.some.inj h
         exact tok30
        | false => rw [h8, cond_false] at h; cases h
     | false =>
      rw [h5, cond_false] at h
      cases h6 : Nat.blt t 32 with
      | true =>
       rw [h6, cond_true] at h
       cases h7 : Nat.beq t 31 with
       | true =>
        rw [h7, cond_true] at h
        have := Nat.eq_of_beq_eq_true h7
        subst this
        obtain rfl := Option.some.inj h
        exact tok31
       | false => rw [h7, cond_false] at h; cases h
      | false =>
       rw [h6, cond_false] at h
       cases h7 : Nat.blt t 33 with
       | true =>
        rw [h7, cond_true] at h
        cases h8 : Nat.beq t 32 with
        | true =>
         rw [h8, cond_true] at h
         have := Nat.eq_of_beq_eq_true h8
         subst this
         obtain rfl := Option.some.inj h
         exact tok32
        | false => rw [h8, cond_false] at h; cases h
       | false =>
        rw [h7, cond_false] at h
        cases h8 : Nat.beq t 33 with
        | true =>
         rw [h8, cond_true] at h
         have := Nat.eq_of_beq_eq_true h8
         subst this
         obtain rfl := Option.some.inj h
         exact tok33
        | false => rw [h8, cond_false] at h; cases h
    | false =>
     rw [h4, cond_false] at h
     cases h5 : Nat.blt t 38 with
     | true =>
      rw [h5, cond_true] at h
      cases h6 : Nat.blt t 36 with
      | true =>
       rw [h6, cond_true] at h
       cases h7 : Nat.beq t 34 with
       | true =>
        rw [h7, cond_true] at h
        have := Nat.eq_of_beq_eq_true h7
        subst this
        obtain rfl := Option.some.inj h
        exact tok34
       | false => rw [h7, cond_false] at h; cases h
      | false =>
       rw [h6, cond_false] at h
       cases h7 : Nat.blt t 37 with
       | true =>
        rw [h7, cond_true] at h
        cases h8 : Nat.beq t 36 with
        | true =>
         rw [h8, cond_true] at h
         have := Nat.eq_of_beq_eq_true h8
         subst this
         obtain rfl := Option.some.inj h
         exact tok36
        | false => rw [h8, cond_false] at h; cases h
       | false =>
        rw [h7, cond_false] at h
        cases h8 : Nat.beq t 37 with
        | true =>
         rw [h8, cond_true] at h
         have := Nat.eq_of_beq_eq_true h8
         subst this
         obtain rfl := Option.some.inj h
         exact tok37
        | false => rw [h8, cond_false] at h; cases h
     | false =>
      rw [h5, cond_false] at h
      cases h6 : Nat.blt t 40 with
      | true =>
       rw [h6, cond_true] at h
       cases h7 : Nat.blt t 39 with
       | true =>
        rw [h7, cond_true] at h
        cases h8 : Nat.beq t 38 with
        | true =>
         rw [h8, cond_true] at h
         have := Nat.eq_of_beq_eq_true h8
         subst this
         obtain rfl := Option.some.inj h
         exact tok38
        | false => rw [h8, cond_false] at h; cases h
       | false =>
        rw [h7, cond_false] at h
        cases h8 : Nat.beq t 39 with
        | true =>
         rw [h8, cond_true] at h
         have := Nat.eq_of_beq_eq_true h8
         subst this
         obtain rfl := Option.some.inj h
         exact tok39
        | false => rw [h8, cond_false] at h; cases h
      | false =>
       rw [h6, cond_false] at h
       cases h7 : Nat.blt t 41 with
       | true =>
        rw [h7, cond_true] at h
        cases h8 : Nat.beq t 40 with
        | true =>
         rw [h8, cond_true] at h
         have := Nat.eq_of_beq_eq_true h8
         subst this
         obtain rfl := Option.some.inj h
         exact tok40
        | false => rw [h8, cond_false] at h; cases h
       | false =>
        rw [h7, cond_false] at h
        cases h8 : Nat.beq t 41 with
        | true =>
         rw [h8, cond_true] at h
         have := Nat.eq_of_beq_eq_true h8
         subst this
         obtain rfl := Option.some.inj h
         exact tok41
        | false => rw [h8, cond_false] at h; cases h
   | false =>
    rw [h3, cond_false] at h
    cases h4 : Nat.blt t 49 with
    | true =>
     rw [h4, cond_true] at h
     cases h5 : Nat.blt t 46 with
     | true =>
      rw [h5, cond_true] at h
      cases h6 : Nat.blt t 43 with
      | true =>
       rw [h6, cond_true] at h
       cases h7 : Nat.beq t 42 with
       | true =>
        rw [h7, cond_true] at h
        have := Nat.eq_of_beq_eq_true h7
        subst this
        obtain rfl := Option.some.inj h
        exact tok42
       | false => rw [h7, cond_false] at h; cases h
      | false =>
       rw [h6, cond_false] at h
       cases h7 : Nat.blt t 44 with
       | true =>
        rw [h7, cond_true] at h
        cases h8 : Nat.beq t 43 with
        | true =>
         rw [h8, cond_true] at h
         have := Nat.eq_of_beq_eq_true h8
         subst this
         obtain rfl := Option.some.inj h
         exact tok43
        | false => rw [h8, cond_false] at h; cases h
       | false =>
        rw [h7, cond_false] at h
        cases h8 : Nat.beq t 44 with
        | true =>
         rw [h8, cond_true] at h
         have := Nat.eq_of_beq_eq_true h8
         subst this
         obtain rfl := Option.some.inj h
         exact tok44
        | false => rw [h8, cond_false] at h; cases h
     | false =>
      rw [h5, cond_false] at h
      cases h6 : Nat.blt t 47 with
      | true =>
       rw [h6, cond_true] at h
       cases h7 : Nat.beq t 46 with
       | true =>
        rw [h7, cond_true] at h
        have := Nat.eq_of_beq_eq_true h7
        subst this
        obtain rfl := Option.some.inj h
        exact tok46
       | false => rw [h7, cond_false] at h; cases h
      | false =>
       rw [h6, cond_false] at h
       cases h7 : Nat.blt t 48 with
       | true =>
        rw [h7, cond_true] at h
        cases h8 : Nat.beq t 47 with
        | true =>
         rw [h8, cond_true] at h
         have := Nat.eq_of_beq_eq_true h8
         subst this
         obtain rfl := Option.some.inj h
         exact tok47
        | false => rw [h8, cond_false] at h; cases h
       | false =>
        rw [h7, cond_false] at h
        cases h8 : Nat.beq t 48 with
        | true =>
         rw [h8, cond_true] at h
         have := Nat.eq_of_beq_eq_true h8
         subst this
         obtain rfl := Option.some.inj h
         exact tok48
        | false => rw [h8, cond_false] at h; cases h
    | false =>
     rw [h4, cond_false] at h
     cases h5 : Nat.blt t 52 with
     | true =>
      rw [h5, cond_true] at h
      cases h6 : Nat.blt t 50 with
      | true =>
       rw [h6, cond_true] at h
       cases h7 : Nat.beq t 49 with
       | true =>
        rw [h7, cond_true] at h
        have := Nat.eq_of_beq_eq_true h7
        subst this
        obtain rfl := Option.some.inj h
        exact tok49
       | false => rw [h7, cond_false] at h; cases h
      | false =>
       rw [h6, cond_false] at h
       cases h7 : Nat.blt t 51 with
       | true =>
        rw [h7, cond_true] at h
        cases h8 : Nat.beq t 50 with
        | true =>
         rw [h8, cond_true] at h
         have := Nat.eq_of_beq_eq_true h8
         subst this
         obtain rfl := Option.some.inj h
         exact tok50
        | false => rw [h8, cond_false] at h; cases h
       | false =>
        rw [h7, cond_false] at h
        cases h8 : Nat.beq t 51 with
        | true =>
         rw [h8, cond_true] at h
         have := Nat.eq_of_beq_eq_true h8
         subst this
         obtain rfl := Option.some.inj h
         exact tok51
        | false => rw [h8, cond_false] at h; cases h
     | false =>
      rw [h5, cond_false] at h
      cases h6 : Nat.blt t 54 with
      | true =>
       rw [h6, cond_true] at h
       cases h7 : Nat.blt t 53 with
       | true =>
        rw [h7, cond_true] at h
        cases h8 : Nat.beq t 52 with
        | true =>
         rw [h8, cond_true] at h
         have := Nat.eq_of_beq_eq_true h8
         subst this
         obtain rfl := Option.some.inj h
         exact tok52
        | false => rw [h8, cond_false] at h; cases h
       | false =>
        rw [h7, cond_false] at h
        cases h8 : Nat.beq t 53 with
        | true =>
         rw [h8, cond_true] at h
         have := Nat.eq_of_beq_eq_true h8
         subst this
         obtain rfl := Option.some.inj h
         exact tok53
        | false => rw [h8, cond_false] at h; cases h
      | false =>
       rw [h6, cond_false] at h
       cases h7 : Nat.blt t 55 with
       | true =>
        rw [h7, cond_true] at h
        cases h8 : Nat.beq t 54 with
        | true =>
         rw [h8, cond_true] at h
         have := Nat.eq_of_beq_eq_true h8
         subst this
         obtain rfl := Option.some.inj h
         exact tok54
        | false => rw [h8, cond_false] at h; cases h
       | false =>
        rw [h7, cond_false] at h
        cases h8 : Nat.beq t 55 with
        | true =>
         rw [h8, cond_true] at h
         have := Nat.eq_of_beq_eq_true h8
         subst this
         obtain rfl := Option.some.inj h
         exact tok55
        | false => rw [h8, cond_false] at h; cases h
 | false =>
  rw [h1, cond_false] at h
  cases h2 : Nat.blt t 85 with
  | true =>
   rw [h2, cond_true] at h
   cases h3 : Nat.blt t 70 with
   | true =>
    rw [h3, cond_true] at h
    cases h4 : Nat.blt t 62 with
    | true =>
     rw [h4, cond_true] at h
     cases h5 : Nat.blt t 59 with
     | true =>
      rw [h5, cond_true] at h
      cases h6 : Nat.blt t 57 with
      | true =>
       rw [h6, cond_true] at h
       cases h7 : Nat.beq t 56 with
       | true =>
        rw [h7, cond_true] at h
        have := Nat.eq_of_beq_eq_true h7
        subst this
        obtain rfl := Option.some.inj h
        exact tok56
       | false => rw [h7, cond_false] at h; cases h
      | false =>
       rw [h6, cond_false] at h
       cases h7 : Nat.blt t 58 with
       | true =>
        rw [h7, cond_true] at h
        cases h8 : Nat.beq t 57 with
        | true =>
         rw [h8, cond_true] at h
         have := Nat.eq_of_beq_eq_true h8
         subst this
         obtain rfl := Option.some.inj h
         exact tok57
        | false => rw [h8, cond_false] at h; cases h
       | false =>
        rw [h7, cond_false] at h
        cases h8 : Nat.beq t 58 with
        | true =>
         rw [h8, cond_true] at h
         have := Nat.eq_of_beq_eq_true h8
         subst this
         obtain rfl := Option.some.inj h
         exact tok58
        | false => rw [h8, cond_false] at h; cases h
     | false =>
      rw [h5, cond_false] at h
      cases h6 : Nat.blt t 60 with
      | true =>
       rw [h6, cond_true] at h
       cases h7 : Nat.beq t 59 with
       | true =>
        rw [h7, cond_true] at h
        have := Nat.eq_of_beq_eq_true h7
        subst this
        obtain rfl := Option.some.inj h
        exact tok59
       | false => rw [h7, cond_false] at h; cases h
      | false =>
       rw [h6, cond_false] at h
       cases h7 : Nat.blt t 61 with
       | true =>
        rw [h7, cond_true] at h
        cases h8 : Nat.beq t 60 with
        | true =>
         rw [h8, cond_true] at h
         have := Nat.eq_of_beq_eq_true h8
         subst this
         obtain rfl := Option.some.inj h
         exact tok60
        | false => rw [h8, cond_false] at h; cases h
       | false =>
        rw [h7, cond_false] at h
        cases h8 : Nat.beq t 61 with
        | true =>
         rw [h8, cond_true] at h
         have := Nat.eq_of_beq_eq_true h8
         subst this
         obtain rfl := Option.some.inj h
         exact tok61
        | false => rw [h8, cond_false] at h; cases h
    | false =>
     rw [h4, cond_false] at h
     cases h5 : Nat.blt t 66 with
     | true =>
      rw [h5, cond_true] at h
      cases h6 : Nat.blt t 64 with
      | true =>
       rw [h6, cond_true] at h
       cases h7 : Nat.beq t 62 with
       | true =>
        rw [h7, cond_true] at h
        have := Nat.eq_of_beq_eq_true h7
        subst this
        obtain rfl := Option.some.inj h
        exact tok62
       | false => rw [h7, cond_false] at h; cases h
      | false =>
       rw [h6, cond_false] at h
       cases h7 : Nat.blt t 65 with
       | true =>
        rw [h7, cond_true] at h
        cases h8 : Nat.beq t 64 with
        | true =>
         rw [h8, cond_true] at h
         have := Nat.eq_of_beq_eq_true h8
         subst this
         obtain rfl := Option.some.inj h
         exact tok64
        | false => rw [h8, cond_false] at h; cases h
       | false =>
        rw [h7, cond_false] at h
        cases h8 : Nat.beq t 65 with
        | true =>
         rw [h8, cond_true] at h
         have := Nat.eq_of_beq_eq_true h8
         subst this
         obtain rfl := Option.some.inj h
         exact tok65
        | false => rw [h8, cond_false] at h; cases h
     | false =>
      rw [h5, cond_false] at h
      cases h6 : Nat.blt t 68 with
      | true =>
       rw [h6, cond_true] at h
       cases h7 : Nat.blt t 67 with
       | true =>
        rw [h7, cond_true] at h
        cases h8 : Nat.beq t 66 with
        | true =>
         rw [h8, cond_true] at h
         have := Nat.eq_of_beq_eq_true h8
         subst this
         obtain rfl := Option.some.inj h
         exact tok66
        | false => rw [h8, cond_false] at h; cases h
       | false =>
        rw [h7, cond_false] at h
        cases h8 : Nat.beq t 67 with
        | true =>
         rw [h8, cond_true] at h
         have := Nat.eq_of_beq_eq_true h8
         subst this
         obtain rfl := Option.some.inj h
         exact tok67
        | false => rw [h8, cond_false] at h; cases h
      | false =>
       rw [h6, cond_false] at h
       cases h7 : Nat.blt t 69 with
       | true =>
        rw [h7, cond_true] at h
        cases h8 : Nat.beq t 68 with
        | true =>
         rw [h8, cond_true] at h
         have := Nat.eq_of_beq_eq_true h8
         subst this
         obtain rfl := Option.some.inj h
         exact tok68
        | false => rw [h8, cond_false] at h; cases h
       | false =>
        rw [h7, cond_false] at h
        cases h8 : Nat.beq t 69 with
        | true =>
         rw [h8, cond_true] at h
         have := Nat.eq_of_beq_eq_true h8
         subst this
         obtain rfl := Option.some.inj h
         exact tok69
        | false => rw [h8, cond_false] at h; cases h
   | false =>
    rw [h3, cond_false] at h
    cases h4 : Nat.blt t 76 with
    | true =>
     rw [h4, cond_true] at h
     cases h5 : Nat.blt t 73 with
     | true =>
      rw [h5, cond_true] at h
      cases h6 : Nat.blt t 71 with
      | true =>
       rw [h6, cond_true] at h
       cases h7 : Nat.beq t 70 with
       | true =>
        rw [h7, cond_true] at h
        have := Nat.eq_of_beq_eq_true h7
        subst this
        obtain rfl := Option.some.inj h
        exact tok70
       | false => rw [h7, cond_false] at h; cases h
      | false =>
       rw [h6, cond_false] at h
       cases h7 : Nat.blt t 72 with
       | true =>
        rw [h7, cond_true] at h
        cases h8 : Nat.beq t 71 with
        | true =>
         rw [h8, cond_true] at h
         have := Nat.eq_of_beq_eq_true h8
         subst this
         obtain rfl := Option.some.inj h
         exact tok71
        | false => rw [h8, cond_false] at h; cases h
       | false =>
        rw [h7, cond_false] at h
        cases h8 : Nat.beq t 72 with
        | true =>
         rw [h8, cond_true] at h
         have := Nat.eq_of_beq_eq_true h8
         subst this
         obtain rfl := Option.some.inj h
         exact tok72
        | false => rw [h8, cond_false] at h; cases h
     | false =>
      rw [h5, cond_false] at h
      cases h6 : Nat.blt t 74 with
      | true =>
       rw [h6, cond_true] at h
       cases h7 : Nat.beq t 73 with
       | true =>
        rw [h7, cond_true] at h
        have := Nat.eq_of_beq_eq_true h7
        subst this
        obtain rfl := Option.some.inj h
        exact tok73
       | false => rw [h7, cond_false] at h; cases h
      | false =>
       rw [h6, cond_false] at h
       cases h7 : Nat.blt t 75 with
       | true =>
        rw [h7, cond_true] at h
        cases h8 : Nat.beq t 74 with
        | true =>
         rw [h8, cond_true] at h
         have := Nat.eq_of_beq_eq_true h8
         subst this
         obtain rfl := Option.some.inj h
         exact tok74
        | false => rw [h8, cond_false] at h; cases h
       | false =>
        rw [h7, cond_false] at h
        cases h8 : Nat.beq t 75 with
        | true =>
         rw [h8, cond_true] at h
         have := Nat.eq_of_beq_eq_true h8
         subst this
         obtain rfl := Option.some.inj h
         exact tok75
        | false => rw [h8, cond_false] at h; cases h
    | false =>
     rw [h4, cond_false] at h
     cases h5 : Nat.blt t 80 with
     | true =>
      rw [h5, cond_true] at h
      cases h6 : Nat.blt t 77 with
      | true =>
       rw [h6, cond_true] at h
       cases h7 : Nat.beq t 76 with
       | true =>
        rw [h7, cond_true] at h
        have := Nat.eq_of_beq_eq_true h7
        subst this
        obtain rfl := Option.some.inj h
        exact tok76
       | false => rw [h7, cond_false] at h; cases h
      | false =>
       rw [h6, cond_false] at h
       cases h7 : Nat.blt t 78 with
       | true =>
        rw [h7, cond_true] at h
        cases h8 : Nat.beq t 77 with
        | true =>
         rw [h8, cond_true] at h
         have := Nat.eq_of_beq_eq_true h8
         subst this
         obtain rfl := Option.some.inj h
         exact tok77
        | false => rw [h8, cond_false] at h; cases h
       | false =>
        rw [h7, cond_false] at h
        cases h8 : Nat.beq t 78 with
        | true =>
         rw [h8, cond_true] at h
         have := Nat.eq_of_beq_eq_true h8
         subst this
         obtain rfl := Option.some.inj h
         exact tok78
        | false => rw [h8, cond_false] at h; cases h
     | false =>
      rw [h5, cond_false] at h
      cases h6 : Nat.blt t 82 with
      | true =>
       rw [h6, cond_true] at h
       cases h7 : Nat.blt t 81 with
       | true =>
        rw [h7, cond_true] at h
        cases h8 : Nat.beq t 80 with
        | true =>
         rw [h8, cond_true] at h
         have := Nat.eq_of_beq_eq_true h8
         subst this
         obtain rfl := Option.some.inj h
         exact tok80
        | false => rw [h8, cond_false] at h; cases h
       | false =>
        rw [h7, cond_false] at h
        cases h8 : Nat.beq t 81 with
        | true =>
         rw [h8, cond_true] at h
         have := Nat.eq_of_beq_eq_true h8
         subst this
         obtain rfl := Option.some.inj h
         exact tok81
        | false => rw [h8, cond_false] at h; cases h
      | false =>
       rw [h6, cond_false] at h
       cases h7 : Nat.blt t 83 with
       | true =>
        rw [h7, cond_true] at h
        cases h8 : Nat.beq t 82 with
        | true =>
         rw [h8, cond_true] at h
         have := Nat.eq_of_beq_eq_true h8
         subst this
         obtain rfl := Option.some.inj h
         exact tok82
        | false => rw [h8, cond_false] at h; cases h
       | false =>
        rw [h7, cond_false] at h
        cases h8 : Nat.beq t 83 with
        | true =>
         rw [h8, cond_true] at h
         have := Nat.eq_of_beq_eq_true h8
         subst this
         obtain rfl := Option.some.inj h
         exact tok83
        | false => rw [h8, cond_false] at h; cases h
  | false =>
   rw [h2, cond_false] at h
   cases h3 : Nat.blt t 99 with
   | true =>
    rw [h3, cond_true] at h
    cases h4 : Nat.blt t 91 with
    | true =>
     rw [h4, cond_true] at h
     cases h5 : Nat.blt t 88 with
     | true =>
      rw [h5, cond_true] at h
      cases h6 : Nat.blt t 86 with
      | true =>
       rw [h6, cond_true] at h
       cases h7 : Nat.beq t 85 with
       | true =>
        rw [h7, cond_true] at h
        have := Nat.eq_of_beq_eq_true h7
        subst this
        obtain rfl := Option.some.inj h
        exact tok85
       | false => rw [h7, cond_false] at h; cases h
      | false =>
       rw [h6, cond_false] at h
       cases h7 : Nat.blt t 87 with
       | true =>
        rw [h7, cond_true] at h
        cases h8 : Nat.beq t 86 with
        | true =>
         rw [h8, cond_true] at h
         have := Nat.eq_of_beq_eq_true h8
         subst this
         obtain rfl := Option.some.inj h
         exact tok86
        | false => rw [h8, cond_false] at h; cases h
       | false =>
        rw [h7, cond_false] at h
        cases h8 : Nat.beq t 87 with
        | true =>
         rw [h8, cond_true] at h
         have := Nat.eq_of_beq_eq_true h8
         subst this
         obtain rfl := Option.some.inj h
         exact tok87
        | false => rw [h8, cond_false] at h; cases h
     | false =>
      rw [h5, cond_false] at h
      cases h6 : Nat.blt t 89 with
      | true =>
       rw [h6, cond_true] at h
       cases h7 : Nat.beq t 88 with
       | true =>
        rw [h7, cond_true] at h
        have := Nat.eq_of_beq_eq_true h7
        subst this
        obtain rfl := Option.some.inj h
        exact tok88
       | false => rw [h7, cond_false] at h; cases h
      | false =>
       rw [h6, cond_false] at h
       cases h7 : Nat.blt t 90 with
       | true =>
        rw [h7, cond_true] at h
        cases h8 : Nat.beq t 89 with
        | true =>
         rw [h8, cond_true] at h
         have := Nat.eq_of_beq_eq_true h8
         subst this
         obtain rfl := Option.some.inj h
         exact tok89
        | false => rw [h8, cond_false] at h; cases h
       | false =>
        rw [h7, cond_false] at h
        cases h8 : Nat.beq t 90 with
        | true =>
         rw [h8, cond_true] at h
         have := Nat.eq_of_beq_eq_true h8
         subst this
         obtain rfl := Option.some.inj h
         exact tok90
        | false => rw [h8, cond_false] at h; cases h
    | false =>
     rw [h4, cond_false] at h
     cases h5 : Nat.blt t 94 with
     | true =>
      rw [h5, cond_true] at h
      cases h6 : Nat.blt t 92 with
      | true =>
       rw [h6, cond_true] at h
       cases h7 : Nat.beq t 91 with
       | true =>
        rw [h7, cond_true] at h
        have := Nat.eq_of_beq_eq_true h7
        subst this
        obtain rfl := Option.some.inj h
        exact tok91
       | false => rw [h7, cond_false] at h; cases h
      | false =>
       rw [h6, cond_false] at h
       cases h7 : Nat.blt t 93 with
       | true =>
        rw [h7, cond_true] at h
        cases h8 : Nat.beq t 92 with
        | true =>
         rw [h8, cond_true] at h
         have := Nat.eq_of_beq_eq_true h8
         subst this
         obtain rfl := Option.some.inj h
         exact tok92
        | false => rw [h8, cond_false] at h; cases h
       | false =>
        rw [h7, cond_false] at h
        cases h8 : Nat.beq t 93 with
        | true =>
         rw [h8, cond_true] at h
         have := Nat.eq_of_beq_eq_true h8
         subst this
         obtain rfl := Option.some.inj h
         exact tok93
        | false => rw [h8, cond_false] at h; cases h
     | false =>
      rw [h5, cond_false] at h
      cases h6 : Nat.blt t 96 with
      | true =>
       rw [h6, cond_true] at h
       cases h7 : Nat.blt t 95 with
       | true =>
        rw [h7, cond_true] at h
        cases h8 : Nat.beq t 94 with
        | true =>
         rw [h8, cond_true] at h
         have := Nat.eq_of_beq_eq_true h8
         subst this
         obtain rfl := Option.some.inj h
         exact tok94
        | false => rw [h8, cond_false] at h; cases h
       | false =>
        rw [h7, cond_false] at h
        cases h8 : Nat.beq t 95 with
        | true =>
         rw [h8, cond_true] at h
         have := Nat.eq_of_beq_eq_true h8
         subst this
         obtain rfl := Option.some.inj h
         exact tok95
        | false => rw [h8, cond_false] at h; cases h
      | false =>
       rw [h6, cond_false] at h
       cases h7 : Nat.blt t 98 with
       | true =>
        rw [h7, cond_true] at h
        cases h8 : Nat.beq t 96 with
        | true =>
         rw [h8, cond_true] at h
         have := Nat.eq_of_beq_eq_true h8
         subst this
         obtain rfl := Option.some.inj h
         exact tok96
        | false => rw [h8, cond_false] at h; cases h
       | false =>
        rw [h7, cond_false] at h
        cases h8 : Nat.beq t 98 with
        | true =>
         rw [h8, cond_true] at h
         have := Nat.eq_of_beq_eq_true h8
         subst this
         obtain rfl := Option.some.inj h
         exact tok98
        | false => rw [h8, cond_false] at h; cases h
   | false =>
    rw [h3, cond_false] at h
    cases h4 : Nat.blt t 106 with
    | true =>
     rw [h4, cond_true] at h
     cases h5 : Nat.blt t 102 with
     | true =>
      rw [h5, cond_true] at h
      cases h6 : Nat.blt t 100 with
      | true =>
       rw [h6, cond_true] at h
       cases h7 : Nat.beq t 99 with
       | true =>
        rw [h7, cond_true] at h
        have := Nat.eq_of_beq_eq_true h7
        subst this
        obtain rfl := Option.some.inj h
        exact tok99
       | false => rw [h7, cond_false] at h; cases h
      | false =>
       rw [h6, cond_false] at h
       cases h7 : Nat.blt t 101 with
       | true =>
        rw [h7, cond_true] at h
        cases h8 : Nat.beq t 100 with
        | true =>
         rw [h8, cond_true] at h
         have := Nat.eq_of_beq_eq_true h8
         subst this
         obtain rfl := Option.some.inj h
         exact tok100
        | false => rw [h8, cond_false] at h; cases h
       | false =>
        rw [h7, cond_false] at h
        cases h8 : Nat.beq t 101 with
        | true =>
         rw [h8, cond_true] at h
         have := Nat.eq_of_beq_eq_true h8
         subst this
         obtain rfl := Option.some.inj h
         exact tok101
        | false => rw [h8, cond_false] at h; cases h
     | false =>
      rw [h5, cond_false] at h
      cases h6 : Nat.blt t 104 with
      | true =>
       rw [h6, cond_true] at h
       cases h7 : Nat.blt t 103 with
       | true =>
        rw [h7, cond_true] at h
        cases h8 : Nat.beq t 102 with
        | true =>
         rw [h8, cond_true] at h
         have := Nat.eq_of_beq_eq_true h8
         subst this
         obtain rfl := Option.some.inj h
         exact tok102
        | false => rw [h8, cond_false] at h; cases h
       | false =>
        rw [h7, cond_false] at h
        cases h8 : Nat.beq t 103 with
        | true =>
         rw [h8, cond_true] at h
         have := Nat.eq_of_beq_eq_true h8
         subst this
         obtain rfl := Option.some.inj h
         exact tok103
        | false => rw [h8, cond_false] at h; cases h
      | false =>
       rw [h6, cond_false] at h
       cases h7 : Nat.blt t 105 with
       | true =>
        rw [h7, cond_true] at h
        cases h8 : Nat.beq t 104 with
        | true =>
         rw [h8, cond_true] at h
         have := Nat.eq_of_beq_eq_true h8
         subst this
         obtain rfl := Option.some.inj h
         exact tok104
        | false => rw [h8, cond_false] at h; cases h
       | false =>
        rw [h7, cond_false] at h
        cases h8 : Nat.beq t 105 with
        | true =>
         rw [h8, cond_true] at h
         have := Nat.eq_of_beq_eq_true h8
         subst this
         obtain rfl := Option.some.inj h
         exact tok105
        | false => rw [h8, cond_false] at h; cases h
    | false =>
     rw [h4, cond_false] at h
     cases h5 : Nat.blt t 109 with
     | true =>
      rw [h5, cond_true] at h
      cases h6 : Nat.blt t 107 with
      | true =>
       rw [h6, cond_true] at h
       cases h7 : Nat.beq t 106 with
       | true =>
        rw [h7, cond_true] at h
        have := Nat.eq_of_beq_eq_true h7
        subst this
        obtain rfl := Option.some.inj h
        exact tok106
       | false => rw [h7, cond_false] at h; cases h
      | false =>
       rw [h6, cond_false] at h
       cases h7 : Nat.blt t 108 with
       | true =>
        rw [h7, cond_true] at h
        cases h8 : Nat.beq t 107 with
        | true =>
         rw [h8, cond_true] at h
         have := Nat.eq_of_beq_eq_true h8
         subst this
         obtain rfl := Option.some.inj h
         exact tok107
        | false => rw [h8, cond_false] at h; cases h
       | false =>
        rw [h7, cond_false] at h
        cases h8 : Nat.beq t 108 with
        | true =>
         rw [h8, cond_true] at h
         have := Nat.eq_of_beq_eq_true h8
         subst this
         obtain rfl := Option.some.inj h
         exact tok108
        | false => rw [h8, cond_false] at h; cases h
     | false =>
      rw [h5, cond_false] at h
      cases h6 : Nat.blt t 111 with
      | true =>
       rw [h6, cond_true] at h
       cases h7 : Nat.blt t 110 with
       | true =>
        rw [h7, cond_true] at h
        cases h8 : Nat.beq t 109 with
        | true =>
         rw [h8, cond_true] at h
         have := Nat.eq_of_beq_eq_true h8
         subst this
         obtain rfl := Option.some.inj h
         exact tok109
        | false => rw [h8, cond_false] at h; cases h
       | false =>
        rw [h7, cond_false] at h
        cases h8 : Nat.beq t 110 with
        | true =>
         rw [h8, cond_true] at h
         have := Nat.eq_of_beq_eq_true h8
         subst this
         obtain rfl := Option.some.inj h
         exact tok110
        | false => rw [h8, cond_false] at h; cases h
      | false =>
       rw [h6, cond_false] at h
       cases h7 : Nat.blt t 112 with
       | true =>
        rw [h7, cond_true] at h
        cases h8 : Nat.beq t 111 with
        | true =>
         rw [h8, cond_true] at h
         have := Nat.eq_of_beq_eq_true h8
         subst this
         obtain rfl := Option.some.inj h
         exact tok111
        | false => rw [h8, cond_false] at h; cases h
       | false =>
        rw [h7, cond_false] at h
        cases h8 : Nat.beq t 112 with
        | true =>
         rw [h8, cond_true] at h
         have := Nat.eq_of_beq_eq_true h8
         subst this
         obtain rfl := Option.some.inj h
         exact tok112
        | false => rw [h8, cond_false] at h; cases h

theorem mixed : Try.prog.follows .mixedOrders = true := by kernel_rfl
end Go.Proofs.Ytpkbdlocmjgmbaa.A
