/- The types and functions of the translated program, as instances; by program (gen_types.py). No conditions. -/
import Derived.Test.YtmpghkcdejikiaaProg
import Derived.KernelRfl
import Derived.Test.YtmpghkcdejikiaaAM7
namespace Go.Proofs
open Go.AM

instance Try.tinf2 : Inf Try.prog 2 1 8 (.int .i64 0) := ⟨by kernel_rfl⟩
instance Try.tinf3 : Inf Try.prog 3 1 8 (.int .i64 0) := ⟨by kernel_rfl⟩
instance Try.tinf4 : Inf Try.prog 4 1 1 (.bool false) := ⟨by kernel_rfl⟩
instance Try.tinf5 : Inf Try.prog 5 1 1 (.int .u8 0) := ⟨by kernel_rfl⟩
instance Try.tinf6 : Inf Try.prog 6 1 1 (.int .u8 0) := ⟨by kernel_rfl⟩
instance Try.tinf7 : Inf Try.prog 7 4 24 (.agg #[.int .i64 0, .int .i64 0, .bool false, .int .u8 0]) := ⟨by kernel_rfl⟩
instance Try.tinf8 : Inf Try.prog 8 4 24 (.agg #[.int .i64 0, .int .i64 0, .bool false, .int .u8 0]) := ⟨by kernel_rfl⟩
instance Try.tinf9 : Inf Try.prog 9 1 16 (.string ⟨#[]⟩) := ⟨by kernel_rfl⟩
instance Try.tinf10 : Inf Try.prog 10 1 16 (.string ⟨#[]⟩) := ⟨by kernel_rfl⟩
instance Try.tinf11 : Inf Try.prog 11 1 16 (.string ⟨#[]⟩) := ⟨by kernel_rfl⟩
instance Try.tinf12 : Inf Try.prog 12 1 8 (.int .u64 0) := ⟨by kernel_rfl⟩
instance Try.tinf13 : Inf Try.prog 13 2 24 (.agg #[.string ⟨#[]⟩, .int .u64 0]) := ⟨by kernel_rfl⟩
instance Try.tinf14 : Inf Try.prog 14 2 24 (.agg #[.string ⟨#[]⟩, .int .u64 0]) := ⟨by kernel_rfl⟩
instance Try.tinf15 : Inf Try.prog 15 1 8 (.pointer none) := ⟨by kernel_rfl⟩
instance Try.tinf16 : Inf Try.prog 16 1 8 (.pointer none) := ⟨by kernel_rfl⟩
instance Try.tinf17 : Inf Try.prog 17 1 8 (.pointer none) := ⟨by kernel_rfl⟩
instance Try.tinf21 : Inf Try.prog 21 1 4 (.int .i32 0) := ⟨by kernel_rfl⟩
instance Try.tinf22 : Inf Try.prog 22 1 24 (.slice none 0 0) := ⟨by kernel_rfl⟩
instance Try.tinf23 : Inf Try.prog 23 1 24 (.slice none 0 0) := ⟨by kernel_rfl⟩
instance Try.tinf24 : Inf Try.prog 24 1 24 (.slice none 0 0) := ⟨by kernel_rfl⟩
instance Try.tinf25 : Inf Try.prog 25 1 24 (.slice none 0 0) := ⟨by kernel_rfl⟩
instance Try.tinf26 : Inf Try.prog 26 5 88 (.agg #[.int .i64 0, .int .i64 0, .slice none 0 0, .slice none 0 0, .slice none 0 0]) := ⟨by kernel_rfl⟩
instance Try.tinf27 : Inf Try.prog 27 5 88 (.agg #[.int .i64 0, .int .i64 0, .slice none 0 0, .slice none 0 0, .slice none 0 0]) := ⟨by kernel_rfl⟩
instance Try.tinf29 : Inf Try.prog 29 1 24 (.slice none 0 0) := ⟨by kernel_rfl⟩
instance Try.tinf37 : Inf Try.prog 37 1 24 (.slice none 0 0) := ⟨by kernel_rfl⟩
instance Try.tinf38 : Inf Try.prog 38 1 24 (.slice none 0 0) := ⟨by kernel_rfl⟩
instance Try.tinf39 : Inf Try.prog 39 1 24 (.slice none 0 0) := ⟨by kernel_rfl⟩
instance Try.tinf40 : Inf Try.prog 40 1 24 (.slice none 0 0) := ⟨by kernel_rfl⟩
instance Try.tinf41 : Inf Try.prog 41 1 24 (.slice none 0 0) := ⟨by kernel_rfl⟩
instance Try.tinf42 : Inf Try.prog 42 1 24 (.slice none 0 0) := ⟨by kernel_rfl⟩
instance Try.tinf43 : Inf Try.prog 43 11 208 (.agg #[.string ⟨#[]⟩, .int .i64 0, .int .i64 0, .int .i64 0, .slice none 0 0, .slice none 0 0, .slice none 0 0, .slice none 0 0, .slice none 0 0, .slice none 0 0, .slice none 0 0]) := ⟨by kernel_rfl⟩
instance Try.tinf44 : Inf Try.prog 44 11 208 (.agg #[.string ⟨#[]⟩, .int .i64 0, .int .i64 0, .int .i64 0, .slice none 0 0, .slice none 0 0, .slice none 0 0, .slice none 0 0, .slice none 0 0, .slice none 0 0, .slice none 0 0]) := ⟨by kernel_rfl⟩
instance Try.tinf45 : Inf Try.prog 45 1 24 (.slice none 0 0) := ⟨by kernel_rfl⟩
instance Try.tinf46 : Inf Try.prog 46 6 64 (.agg #[.int .i64 0, .int .i64 0, .int .i64 0, .int .i64 0, .bool false, .slice none 0 0]) := ⟨by kernel_rfl⟩
instance Try.tinf47 : Inf Try.prog 47 6 64 (.agg #[.int .i64 0, .int .i64 0, .int .i64 0, .int .i64 0, .bool false, .slice none 0 0]) := ⟨by kernel_rfl⟩
instance Try.tinf48 : Inf Try.prog 48 3 24 (.agg #[.int .i64 0, .int .i64 0, .int .i64 0]) := ⟨by kernel_rfl⟩
instance Try.tinf49 : Inf Try.prog 49 3 24 (.agg #[.int .i64 0, .int .i64 0, .int .i64 0]) := ⟨by kernel_rfl⟩
instance Try.tinf50 : Inf Try.prog 50 1 24 (.slice none 0 0) := ⟨by kernel_rfl⟩
instance Try.tinf53 : Inf Try.prog 53 3 24 (.agg #[.int .i64 0, .int .i64 0, .int .i64 0]) := ⟨by kernel_rfl⟩
instance Try.tinf54 : Inf Try.prog 54 3 24 (.agg #[.int .i64 0, .int .i64 0, .int .i64 0]) := ⟨by kernel_rfl⟩
instance Try.tinf56 : Inf Try.prog 56 6 48 (.agg #[.int .i64 0, .int .i64 0, .int .i64 0, .int .i64 0, .int .i64 0, .int .i64 0]) := ⟨by kernel_rfl⟩
instance Try.tinf57 : Inf Try.prog 57 1 24 (.slice none 0 0) := ⟨by kernel_rfl⟩
instance Try.tinf58 : Inf Try.prog 58 1 24 (.slice none 0 0) := ⟨by kernel_rfl⟩
instance Try.tinf60 : Inf Try.prog 60 4 40 (.agg #[.pointer none, .pointer none, .pointer none, .string ⟨#[]⟩]) := ⟨by kernel_rfl⟩
instance Try.tinf61 : Inf Try.prog 61 4 40 (.agg #[.pointer none, .pointer none, .pointer none, .string ⟨#[]⟩]) := ⟨by kernel_rfl⟩
instance Try.tinf62 : Inf Try.prog 62 0 0 (.agg #[]) := ⟨by kernel_rfl⟩
instance Try.tinf63 : Inf Try.prog 63 0 0 (.agg #[]) := ⟨by kernel_rfl⟩
instance Try.tinf64 : Inf Try.prog 64 0 0 (.agg #[]) := ⟨by kernel_rfl⟩
instance Try.tinf66 : Inf Try.prog 66 1 4 (.int .u32 0) := ⟨by kernel_rfl⟩
instance Try.tinf67 : Inf Try.prog 67 1 1 (.int .u8 0) := ⟨by kernel_rfl⟩
instance Try.tinf68 : Inf Try.prog 68 1 1 (.int .u8 0) := ⟨by kernel_rfl⟩
instance Try.tinf70 : Inf Try.prog 70 1 8 (.pointer none) := ⟨by kernel_rfl⟩
instance Try.tinf71 : Inf Try.prog 71 1 4 (.int .i32 0) := ⟨by kernel_rfl⟩
instance Try.tinf72 : Inf Try.prog 72 1 4 (.int .i32 0) := ⟨by kernel_rfl⟩
instance Try.tinf73 : Inf Try.prog 73 11 48 (.agg #[.int .u64 0, .int .u64 0, .int .u32 0, .int .u8 0, .int .u8 0, .int .u8 0, .int .u8 0, .nilFunc, .pointer none, .int .i32 0, .int .i32 0]) := ⟨by kernel_rfl⟩
instance Try.tinf74 : Inf Try.prog 74 11 48 (.agg #[.int .u64 0, .int .u64 0, .int .u32 0, .int .u8 0, .int .u8 0, .int .u8 0, .int .u8 0, .nilFunc, .pointer none, .int .i32 0, .int .i32 0]) := ⟨by kernel_rfl⟩
instance Try.tinf75 : Inf Try.prog 75 1 24 (.slice none 0 0) := ⟨by kernel_rfl⟩
instance Try.tinf76 : Inf Try.prog 76 2 40 (.agg #[.string ⟨#[]⟩, .slice none 0 0]) := ⟨by kernel_rfl⟩
instance Try.tinf77 : Inf Try.prog 77 2 40 (.agg #[.string ⟨#[]⟩, .slice none 0 0]) := ⟨by kernel_rfl⟩
instance Try.tinf78 : Inf Try.prog 78 3 24 (.agg #[.int .i64 0, .int .i64 0, .int .i64 0]) := ⟨by kernel_rfl⟩
instance Try.tinf79 : Inf Try.prog 79 3 24 (.agg #[.int .i64 0, .int .i64 0, .int .i64 0]) := ⟨by kernel_rfl⟩
instance Try.tinf80 : Inf Try.prog 80 7 64 (.agg #[.string ⟨#[]⟩, .int .i64 0, .int .i64 0, .int .i64 0, .bool false, .int .i64 0, .int .i64 0]) := ⟨by kernel_rfl⟩
instance Try.tinf81 : Inf Try.prog 81 7 64 (.agg #[.string ⟨#[]⟩, .int .i64 0, .int .i64 0, .int .i64 0, .bool false, .int .i64 0, .int .i64 0]) := ⟨by kernel_rfl⟩
instance Try.tinf82 : Inf Try.prog 82 3 24 (.agg #[.int .i64 0, .int .i64 0, .int .i64 0]) := ⟨by kernel_rfl⟩
instance Try.tinf83 : Inf Try.prog 83 3 24 (.agg #[.int .i64 0, .int .i64 0, .int .i64 0]) := ⟨by kernel_rfl⟩
instance Try.tinf84 : Inf Try.prog 84 4 32 (.agg #[.int .i64 0, .int .i64 0, .int .i64 0, .bool false]) := ⟨by kernel_rfl⟩
instance Try.tinf85 : Inf Try.prog 85 4 32 (.agg #[.int .i64 0, .int .i64 0, .int .i64 0, .bool false]) := ⟨by kernel_rfl⟩
instance Try.tinf86 : Inf Try.prog 86 6 64 (.agg #[.int .i64 0, .int .i64 0, .int .i64 0, .int .i64 0, .int .i64 0, .slice none 0 0]) := ⟨by kernel_rfl⟩
instance Try.tinf87 : Inf Try.prog 87 6 64 (.agg #[.int .i64 0, .int .i64 0, .int .i64 0, .int .i64 0, .int .i64 0, .slice none 0 0]) := ⟨by kernel_rfl⟩
instance Try.tinf88 : Inf Try.prog 88 2 16 (.agg #[.int .i64 0, .int .i64 0]) := ⟨by kernel_rfl⟩
instance Try.tinf89 : Inf Try.prog 89 2 16 (.agg #[.int .i64 0, .int .i64 0]) := ⟨by kernel_rfl⟩
instance Try.tinf90 : Inf Try.prog 90 4 32 (.agg #[.int .i64 0, .int .i64 0, .int .i64 0, .int .i64 0]) := ⟨by kernel_rfl⟩
instance Try.tinf91 : Inf Try.prog 91 4 32 (.agg #[.int .i64 0, .int .i64 0, .int .i64 0, .int .i64 0]) := ⟨by kernel_rfl⟩
instance Try.tund2 : Und Try.prog 2 (.int .i64) := ⟨Try.underlying2⟩
instance Try.tund3 : Und Try.prog 3 (.int .i64) := ⟨Try.underlying3⟩
instance Try.tund4 : Und Try.prog 4 .bool := ⟨Try.underlying4⟩
instance Try.tund5 : Und Try.prog 5 (.int .u8) := ⟨Try.underlying5⟩
instance Try.tund6 : Und Try.prog 6 (.int .u8) := ⟨Try.underlying6⟩
instance Try.tund7 : Und Try.prog 7 (.struct #[{ name := "x", type := 2, offset := 0, embedded := false, tag := "", pkgPath := "runtime", byteOffset := 0 }, { name := "y", type := 3, offset := 1, embedded := false, tag := "", pkgPath := "runtime", byteOffset := 8 }, { name := "signed", type := 4, offset := 2, embedded := false, tag := "", pkgPath := "runtime", byteOffset := 16 }, { name := "code", type := 6, offset := 3, embedded := false, tag := "", pkgPath := "runtime", byteOffset := 17 }]) := ⟨Try.underlying7⟩
instance Try.tund8 : Und Try.prog 8 (.struct #[{ name := "x", type := 2, offset := 0, embedded := false, tag := "", pkgPath := "runtime", byteOffset := 0 }, { name := "y", type := 3, offset := 1, embedded := false, tag := "", pkgPath := "runtime", byteOffset := 8 }, { name := "signed", type := 4, offset := 2, embedded := false, tag := "", pkgPath := "runtime", byteOffset := 16 }, { name := "code", type := 6, offset := 3, embedded := false, tag := "", pkgPath := "runtime", byteOffset := 17 }]) := ⟨Try.underlying8⟩
instance Try.tund9 : Und Try.prog 9 .string := ⟨Try.underlying9⟩
instance Try.tund10 : Und Try.prog 10 .string := ⟨Try.underlying10⟩
instance Try.tund11 : Und Try.prog 11 .string := ⟨Try.underlying11⟩
instance Try.tund12 : Und Try.prog 12 (.int .u64) := ⟨Try.underlying12⟩
instance Try.tund13 : Und Try.prog 13 (.struct #[{ name := "msg", type := 9, offset := 0, embedded := false, tag := "", pkgPath := "runtime", byteOffset := 0 }, { name := "addr", type := 12, offset := 1, embedded := false, tag := "", pkgPath := "runtime", byteOffset := 16 }]) := ⟨Try.underlying13⟩
instance Try.tund14 : Und Try.prog 14 (.struct #[{ name := "msg", type := 9, offset := 0, embedded := false, tag := "", pkgPath := "runtime", byteOffset := 0 }, { name := "addr", type := 12, offset := 1, embedded := false, tag := "", pkgPath := "runtime", byteOffset := 16 }]) := ⟨Try.underlying14⟩
instance Try.tund15 : Und Try.prog 15 (.pointer 61) := ⟨Try.underlying15⟩
instance Try.tund16 : Und Try.prog 16 (.pointer 64) := ⟨Try.underlying16⟩
instance Try.tund17 : Und Try.prog 17 (.pointer 74) := ⟨Try.underlying17⟩
instance Try.tund21 : Und Try.prog 21 (.int .i32) := ⟨Try.underlying21⟩
instance Try.tund22 : Und Try.prog 22 (.slice 49) := ⟨Try.underlying22⟩
instance Try.tund23 : Und Try.prog 23 (.slice 77) := ⟨Try.underlying23⟩
instance Try.tund24 : Und Try.prog 24 (.slice 79) := ⟨Try.underlying24⟩
instance Try.tund25 : Und Try.prog 25 (.slice 44) := ⟨Try.underlying25⟩
instance Try.tund26 : Und Try.prog 26 (.struct #[{ name := "Level", type := 3, offset := 0, embedded := false, tag := "", pkgPath := "", byteOffset := 0 }, { name := "Code", type := 3, offset := 1, embedded := false, tag := "", pkgPath := "", byteOffset := 8 }, { name := "Records", type := 23, offset := 2, embedded := false, tag := "", pkgPath := "", byteOffset := 16 }, { name := "Stmts", type := 24, offset := 3, embedded := false, tag := "", pkgPath := "", byteOffset := 40 }, { name := "Procs", type := 25, offset := 4, embedded := false, tag := "", pkgPath := "", byteOffset := 64 }]) := ⟨Try.underlying26⟩
instance Try.tund27 : Und Try.prog 27 (.struct #[{ name := "Level", type := 3, offset := 0, embedded := false, tag := "", pkgPath := "", byteOffset := 0 }, { name := "Code", type := 3, offset := 1, embedded := false, tag := "", pkgPath := "", byteOffset := 8 }, { name := "Records", type := 23, offset := 2, embedded := false, tag := "", pkgPath := "", byteOffset := 16 }, { name := "Stmts", type := 24, offset := 3, embedded := false, tag := "", pkgPath := "", byteOffset := 40 }, { name := "Procs", type := 25, offset := 4, embedded := false, tag := "", pkgPath := "", byteOffset := 64 }]) := ⟨Try.underlying27⟩
instance Try.tund29 : Und Try.prog 29 (.slice 47) := ⟨Try.underlying29⟩
instance Try.tund37 : Und Try.prog 37 (.slice 81) := ⟨Try.underlying37⟩
instance Try.tund38 : Und Try.prog 38 (.slice 83) := ⟨Try.underlying38⟩
instance Try.tund39 : Und Try.prog 39 (.slice 85) := ⟨Try.underlying39⟩
instance Try.tund40 : Und Try.prog 40 (.slice 87) := ⟨Try.underlying40⟩
instance Try.tund41 : Und Try.prog 41 (.slice 89) := ⟨Try.underlying41⟩
instance Try.tund42 : Und Try.prog 42 (.slice 91) := ⟨Try.underlying42⟩
instance Try.tund43 : Und Try.prog 43 (.struct #[{ name := "Name", type := 9, offset := 0, embedded := false, tag := "", pkgPath := "", byteOffset := 0 }, { name := "Line", type := 3, offset := 1, embedded := false, tag := "", pkgPath := "", byteOffset := 16 }, { name := "Lo", type := 3, offset := 2, embedded := false, tag := "", pkgPath := "", byteOffset := 24 }, { name := "Hi", type := 3, offset := 3, embedded := false, tag := "", pkgPath := "", byteOffset := 32 }, { name := "Vars", type := 37, offset := 4, embedded := false, tag := "", pkgPath := "", byteOffset := 40 }, { name := "Contexts", type := 38, offset := 5, embedded := false, tag := "", pkgPath := "", byteOffset := 64 }, { name := "Rows", type := 39, offset := 6, embedded := false, tag := "", pkgPath := "", byteOffset := 88 }, { name := "Ranges", type := 40, offset := 7, embedded := false, tag := "", pkgPath := "", byteOffset := 112 }, { name := "Sites", type := 29, offset := 8, embedded := false, tag := "", pkgPath := "", byteOffset := 136 }, { name := "Steps", type := 41, offset := 9, embedded := false, tag := "", pkgPath := "", byteOffset := 160 }, { name := "Objects", type := 42, offset := 10, embedded := false, tag := "", pkgPath := "", byteOffset := 184 }]) := ⟨Try.underlying43⟩
instance Try.tund44 : Und Try.prog 44 (.struct #[{ name := "Name", type := 9, offset := 0, embedded := false, tag := "", pkgPath := "", byteOffset := 0 }, { name := "Line", type := 3, offset := 1, embedded := false, tag := "", pkgPath := "", byteOffset := 16 }, { name := "Lo", type := 3, offset := 2, embedded := false, tag := "", pkgPath := "", byteOffset := 24 }, { name := "Hi", type := 3, offset := 3, embedded := false, tag := "", pkgPath := "", byteOffset := 32 }, { name := "Vars", type := 37, offset := 4, embedded := false, tag := "", pkgPath := "", byteOffset := 40 }, { name := "Contexts", type := 38, offset := 5, embedded := false, tag := "", pkgPath := "", byteOffset := 64 }, { name := "Rows", type := 39, offset := 6, embedded := false, tag := "", pkgPath := "", byteOffset := 88 }, { name := "Ranges", type := 40, offset := 7, embedded := false, tag := "", pkgPath := "", byteOffset := 112 }, { name := "Sites", type := 29, offset := 8, embedded := false, tag := "", pkgPath := "", byteOffset := 136 }, { name := "Steps", type := 41, offset := 9, embedded := false, tag := "", pkgPath := "", byteOffset := 160 }, { name := "Objects", type := 42, offset := 10, embedded := false, tag := "", pkgPath := "", byteOffset := 184 }]) := ⟨Try.underlying44⟩
instance Try.tund45 : Und Try.prog 45 (.slice 54) := ⟨Try.underlying45⟩
instance Try.tund46 : Und Try.prog 46 (.struct #[{ name := "Addr", type := 3, offset := 0, embedded := false, tag := "", pkgPath := "", byteOffset := 0 }, { name := "Callee", type := 3, offset := 1, embedded := false, tag := "", pkgPath := "", byteOffset := 8 }, { name := "Ctx", type := 3, offset := 2, embedded := false, tag := "", pkgPath := "", byteOffset := 16 }, { name := "Stmt", type := 3, offset := 3, embedded := false, tag := "", pkgPath := "", byteOffset := 24 }, { name := "Tail", type := 4, offset := 4, embedded := false, tag := "", pkgPath := "", byteOffset := 32 }, { name := "Args", type := 45, offset := 5, embedded := false, tag := "", pkgPath := "", byteOffset := 40 }]) := ⟨Try.underlying46⟩
instance Try.tund47 : Und Try.prog 47 (.struct #[{ name := "Addr", type := 3, offset := 0, embedded := false, tag := "", pkgPath := "", byteOffset := 0 }, { name := "Callee", type := 3, offset := 1, embedded := false, tag := "", pkgPath := "", byteOffset := 8 }, { name := "Ctx", type := 3, offset := 2, embedded := false, tag := "", pkgPath := "", byteOffset := 16 }, { name := "Stmt", type := 3, offset := 3, embedded := false, tag := "", pkgPath := "", byteOffset := 24 }, { name := "Tail", type := 4, offset := 4, embedded := false, tag := "", pkgPath := "", byteOffset := 32 }, { name := "Args", type := 45, offset := 5, embedded := false, tag := "", pkgPath := "", byteOffset := 40 }]) := ⟨Try.underlying47⟩
instance Try.tund48 : Und Try.prog 48 (.struct #[{ name := "From", type := 3, offset := 0, embedded := false, tag := "", pkgPath := "", byteOffset := 0 }, { name := "To", type := 3, offset := 1, embedded := false, tag := "", pkgPath := "", byteOffset := 8 }, { name := "Addr", type := 3, offset := 2, embedded := false, tag := "", pkgPath := "", byteOffset := 16 }]) := ⟨Try.underlying48⟩
instance Try.tund49 : Und Try.prog 49 (.struct #[{ name := "From", type := 3, offset := 0, embedded := false, tag := "", pkgPath := "", byteOffset := 0 }, { name := "To", type := 3, offset := 1, embedded := false, tag := "", pkgPath := "", byteOffset := 8 }, { name := "Addr", type := 3, offset := 2, embedded := false, tag := "", pkgPath := "", byteOffset := 16 }]) := ⟨Try.underlying49⟩
instance Try.tund50 : Und Try.prog 50 (.slice 4) := ⟨Try.underlying50⟩
instance Try.tund53 : Und Try.prog 53 (.struct #[{ name := "Kind", type := 3, offset := 0, embedded := false, tag := "", pkgPath := "", byteOffset := 0 }, { name := "N", type := 3, offset := 1, embedded := false, tag := "", pkgPath := "", byteOffset := 8 }, { name := "Add", type := 3, offset := 2, embedded := false, tag := "", pkgPath := "", byteOffset := 16 }]) := ⟨Try.underlying53⟩
instance Try.tund54 : Und Try.prog 54 (.struct #[{ name := "Kind", type := 3, offset := 0, embedded := false, tag := "", pkgPath := "", byteOffset := 0 }, { name := "N", type := 3, offset := 1, embedded := false, tag := "", pkgPath := "", byteOffset := 8 }, { name := "Add", type := 3, offset := 2, embedded := false, tag := "", pkgPath := "", byteOffset := 16 }]) := ⟨Try.underlying54⟩
instance Try.tund56 : Und Try.prog 56 (.array 6 3) := ⟨Try.underlying56⟩
instance Try.tund57 : Und Try.prog 57 (.slice 58) := ⟨Try.underlying57⟩
instance Try.tund58 : Und Try.prog 58 (.slice 3) := ⟨Try.underlying58⟩
instance Try.tund60 : Und Try.prog 60 (.struct #[{ name := "_interface", type := 17, offset := 0, embedded := false, tag := "", pkgPath := "runtime", byteOffset := 0 }, { name := "concrete", type := 17, offset := 1, embedded := false, tag := "", pkgPath := "runtime", byteOffset := 8 }, { name := "asserted", type := 17, offset := 2, embedded := false, tag := "", pkgPath := "runtime", byteOffset := 16 }, { name := "missingMethod", type := 9, offset := 3, embedded := false, tag := "", pkgPath := "runtime", byteOffset := 24 }]) := ⟨Try.underlying60⟩
instance Try.tund61 : Und Try.prog 61 (.struct #[{ name := "_interface", type := 17, offset := 0, embedded := false, tag := "", pkgPath := "runtime", byteOffset := 0 }, { name := "concrete", type := 17, offset := 1, embedded := false, tag := "", pkgPath := "runtime", byteOffset := 8 }, { name := "asserted", type := 17, offset := 2, embedded := false, tag := "", pkgPath := "runtime", byteOffset := 16 }, { name := "missingMethod", type := 9, offset := 3, embedded := false, tag := "", pkgPath := "runtime", byteOffset := 24 }]) := ⟨Try.underlying61⟩
instance Try.tund62 : Und Try.prog 62 (.array 0 16) := ⟨Try.underlying62⟩
instance Try.tund63 : Und Try.prog 63 (.struct #[{ name := "_", type := 62, offset := 0, embedded := false, tag := "", pkgPath := "runtime", byteOffset := 0 }]) := ⟨Try.underlying63⟩
instance Try.tund64 : Und Try.prog 64 (.struct #[{ name := "_", type := 62, offset := 0, embedded := false, tag := "", pkgPath := "runtime", byteOffset := 0 }]) := ⟨Try.underlying64⟩
instance Try.tund66 : Und Try.prog 66 (.int .u32) := ⟨Try.underlying66⟩
instance Try.tund67 : Und Try.prog 67 (.int .u8) := ⟨Try.underlying67⟩
instance Try.tund68 : Und Try.prog 68 (.int .u8) := ⟨Try.underlying68⟩
instance Try.tund70 : Und Try.prog 70 (.pointer 5) := ⟨Try.underlying70⟩
instance Try.tund71 : Und Try.prog 71 (.int .i32) := ⟨Try.underlying71⟩
instance Try.tund72 : Und Try.prog 72 (.int .i32) := ⟨Try.underlying72⟩
instance Try.tund73 : Und Try.prog 73 (.struct #[{ name := "Size_", type := 12, offset := 0, embedded := false, tag := "", pkgPath := "", byteOffset := 0 }, { name := "PtrBytes", type := 12, offset := 1, embedded := false, tag := "", pkgPath := "", byteOffset := 8 }, { name := "Hash", type := 66, offset := 2, embedded := false, tag := "", pkgPath := "", byteOffset := 16 }, { name := "TFlag", type := 67, offset := 3, embedded := false, tag := "", pkgPath := "", byteOffset := 20 }, { name := "Align_", type := 5, offset := 4, embedded := false, tag := "", pkgPath := "", byteOffset := 21 }, { name := "FieldAlign_", type := 5, offset := 5, embedded := false, tag := "", pkgPath := "", byteOffset := 22 }, { name := "Kind_", type := 68, offset := 6, embedded := false, tag := "", pkgPath := "", byteOffset := 23 }, { name := "Equal", type := 69, offset := 7, embedded := false, tag := "", pkgPath := "", byteOffset := 24 }, { name := "GCData", type := 70, offset := 8, embedded := false, tag := "", pkgPath := "", byteOffset := 32 }, { name := "Str", type := 71, offset := 9, embedded := false, tag := "", pkgPath := "", byteOffset := 40 }, { name := "PtrToThis", type := 72, offset := 10, embedded := false, tag := "", pkgPath := "", byteOffset := 44 }]) := ⟨Try.underlying73⟩
instance Try.tund74 : Und Try.prog 74 (.struct #[{ name := "Size_", type := 12, offset := 0, embedded := false, tag := "", pkgPath := "", byteOffset := 0 }, { name := "PtrBytes", type := 12, offset := 1, embedded := false, tag := "", pkgPath := "", byteOffset := 8 }, { name := "Hash", type := 66, offset := 2, embedded := false, tag := "", pkgPath := "", byteOffset := 16 }, { name := "TFlag", type := 67, offset := 3, embedded := false, tag := "", pkgPath := "", byteOffset := 20 }, { name := "Align_", type := 5, offset := 4, embedded := false, tag := "", pkgPath := "", byteOffset := 21 }, { name := "FieldAlign_", type := 5, offset := 5, embedded := false, tag := "", pkgPath := "", byteOffset := 22 }, { name := "Kind_", type := 68, offset := 6, embedded := false, tag := "", pkgPath := "", byteOffset := 23 }, { name := "Equal", type := 69, offset := 7, embedded := false, tag := "", pkgPath := "", byteOffset := 24 }, { name := "GCData", type := 70, offset := 8, embedded := false, tag := "", pkgPath := "", byteOffset := 32 }, { name := "Str", type := 71, offset := 9, embedded := false, tag := "", pkgPath := "", byteOffset := 40 }, { name := "PtrToThis", type := 72, offset := 10, embedded := false, tag := "", pkgPath := "", byteOffset := 44 }]) := ⟨Try.underlying74⟩
instance Try.tund75 : Und Try.prog 75 (.slice 9) := ⟨Try.underlying75⟩
instance Try.tund76 : Und Try.prog 76 (.struct #[{ name := "Name", type := 9, offset := 0, embedded := false, tag := "", pkgPath := "", byteOffset := 0 }, { name := "Fields", type := 75, offset := 1, embedded := false, tag := "", pkgPath := "", byteOffset := 16 }]) := ⟨Try.underlying76⟩
instance Try.tund77 : Und Try.prog 77 (.struct #[{ name := "Name", type := 9, offset := 0, embedded := false, tag := "", pkgPath := "", byteOffset := 0 }, { name := "Fields", type := 75, offset := 1, embedded := false, tag := "", pkgPath := "", byteOffset := 16 }]) := ⟨Try.underlying77⟩
instance Try.tund78 : Und Try.prog 78 (.struct #[{ name := "Func", type := 3, offset := 0, embedded := false, tag := "", pkgPath := "", byteOffset := 0 }, { name := "Kind", type := 3, offset := 1, embedded := false, tag := "", pkgPath := "", byteOffset := 8 }, { name := "Line", type := 3, offset := 2, embedded := false, tag := "", pkgPath := "", byteOffset := 16 }]) := ⟨Try.underlying78⟩
instance Try.tund79 : Und Try.prog 79 (.struct #[{ name := "Func", type := 3, offset := 0, embedded := false, tag := "", pkgPath := "", byteOffset := 0 }, { name := "Kind", type := 3, offset := 1, embedded := false, tag := "", pkgPath := "", byteOffset := 8 }, { name := "Line", type := 3, offset := 2, embedded := false, tag := "", pkgPath := "", byteOffset := 16 }]) := ⟨Try.underlying79⟩
instance Try.tund80 : Und Try.prog 80 (.struct #[{ name := "Name", type := 9, offset := 0, embedded := false, tag := "", pkgPath := "", byteOffset := 0 }, { name := "Kind", type := 3, offset := 1, embedded := false, tag := "", pkgPath := "", byteOffset := 16 }, { name := "Record", type := 3, offset := 2, embedded := false, tag := "", pkgPath := "", byteOffset := 24 }, { name := "Words", type := 3, offset := 3, embedded := false, tag := "", pkgPath := "", byteOffset := 32 }, { name := "Param", type := 4, offset := 4, embedded := false, tag := "", pkgPath := "", byteOffset := 40 }, { name := "From", type := 3, offset := 5, embedded := false, tag := "", pkgPath := "", byteOffset := 48 }, { name := "To", type := 3, offset := 6, embedded := false, tag := "", pkgPath := "", byteOffset := 56 }]) := ⟨Try.underlying80⟩
instance Try.tund81 : Und Try.prog 81 (.struct #[{ name := "Name", type := 9, offset := 0, embedded := false, tag := "", pkgPath := "", byteOffset := 0 }, { name := "Kind", type := 3, offset := 1, embedded := false, tag := "", pkgPath := "", byteOffset := 16 }, { name := "Record", type := 3, offset := 2, embedded := false, tag := "", pkgPath := "", byteOffset := 24 }, { name := "Words", type := 3, offset := 3, embedded := false, tag := "", pkgPath := "", byteOffset := 32 }, { name := "Param", type := 4, offset := 4, embedded := false, tag := "", pkgPath := "", byteOffset := 40 }, { name := "From", type := 3, offset := 5, embedded := false, tag := "", pkgPath := "", byteOffset := 48 }, { name := "To", type := 3, offset := 6, embedded := false, tag := "", pkgPath := "", byteOffset := 56 }]) := ⟨Try.underlying81⟩
instance Try.tund82 : Und Try.prog 82 (.struct #[{ name := "Parent", type := 3, offset := 0, embedded := false, tag := "", pkgPath := "", byteOffset := 0 }, { name := "Stmt", type := 3, offset := 1, embedded := false, tag := "", pkgPath := "", byteOffset := 8 }, { name := "Func", type := 3, offset := 2, embedded := false, tag := "", pkgPath := "", byteOffset := 16 }]) := ⟨Try.underlying82⟩
instance Try.tund83 : Und Try.prog 83 (.struct #[{ name := "Parent", type := 3, offset := 0, embedded := false, tag := "", pkgPath := "", byteOffset := 0 }, { name := "Stmt", type := 3, offset := 1, embedded := false, tag := "", pkgPath := "", byteOffset := 8 }, { name := "Func", type := 3, offset := 2, embedded := false, tag := "", pkgPath := "", byteOffset := 16 }]) := ⟨Try.underlying83⟩
instance Try.tund84 : Und Try.prog 84 (.struct #[{ name := "Addr", type := 3, offset := 0, embedded := false, tag := "", pkgPath := "", byteOffset := 0 }, { name := "Ctx", type := 3, offset := 1, embedded := false, tag := "", pkgPath := "", byteOffset := 8 }, { name := "Stmt", type := 3, offset := 2, embedded := false, tag := "", pkgPath := "", byteOffset := 16 }, { name := "Mark", type := 4, offset := 3, embedded := false, tag := "", pkgPath := "", byteOffset := 24 }]) := ⟨Try.underlying84⟩
instance Try.tund85 : Und Try.prog 85 (.struct #[{ name := "Addr", type := 3, offset := 0, embedded := false, tag := "", pkgPath := "", byteOffset := 0 }, { name := "Ctx", type := 3, offset := 1, embedded := false, tag := "", pkgPath := "", byteOffset := 8 }, { name := "Stmt", type := 3, offset := 2, embedded := false, tag := "", pkgPath := "", byteOffset := 16 }, { name := "Mark", type := 4, offset := 3, embedded := false, tag := "", pkgPath := "", byteOffset := 24 }]) := ⟨Try.underlying85⟩
instance Try.tund86 : Und Try.prog 86 (.struct #[{ name := "Ctx", type := 3, offset := 0, embedded := false, tag := "", pkgPath := "", byteOffset := 0 }, { name := "Var", type := 3, offset := 1, embedded := false, tag := "", pkgPath := "", byteOffset := 8 }, { name := "Piece", type := 3, offset := 2, embedded := false, tag := "", pkgPath := "", byteOffset := 16 }, { name := "Lo", type := 3, offset := 3, embedded := false, tag := "", pkgPath := "", byteOffset := 24 }, { name := "Hi", type := 3, offset := 4, embedded := false, tag := "", pkgPath := "", byteOffset := 32 }, { name := "Places", type := 45, offset := 5, embedded := false, tag := "", pkgPath := "", byteOffset := 40 }]) := ⟨Try.underlying86⟩
instance Try.tund87 : Und Try.prog 87 (.struct #[{ name := "Ctx", type := 3, offset := 0, embedded := false, tag := "", pkgPath := "", byteOffset := 0 }, { name := "Var", type := 3, offset := 1, embedded := false, tag := "", pkgPath := "", byteOffset := 8 }, { name := "Piece", type := 3, offset := 2, embedded := false, tag := "", pkgPath := "", byteOffset := 16 }, { name := "Lo", type := 3, offset := 3, embedded := false, tag := "", pkgPath := "", byteOffset := 24 }, { name := "Hi", type := 3, offset := 4, embedded := false, tag := "", pkgPath := "", byteOffset := 32 }, { name := "Places", type := 45, offset := 5, embedded := false, tag := "", pkgPath := "", byteOffset := 40 }]) := ⟨Try.underlying87⟩
instance Try.tund88 : Und Try.prog 88 (.struct #[{ name := "Addr", type := 3, offset := 0, embedded := false, tag := "", pkgPath := "", byteOffset := 0 }, { name := "Offset", type := 3, offset := 1, embedded := false, tag := "", pkgPath := "", byteOffset := 8 }]) := ⟨Try.underlying88⟩
instance Try.tund89 : Und Try.prog 89 (.struct #[{ name := "Addr", type := 3, offset := 0, embedded := false, tag := "", pkgPath := "", byteOffset := 0 }, { name := "Offset", type := 3, offset := 1, embedded := false, tag := "", pkgPath := "", byteOffset := 8 }]) := ⟨Try.underlying89⟩
instance Try.tund90 : Und Try.prog 90 (.struct #[{ name := "Ctx", type := 3, offset := 0, embedded := false, tag := "", pkgPath := "", byteOffset := 0 }, { name := "Var", type := 3, offset := 1, embedded := false, tag := "", pkgPath := "", byteOffset := 8 }, { name := "Slot", type := 3, offset := 2, embedded := false, tag := "", pkgPath := "", byteOffset := 16 }, { name := "Words", type := 3, offset := 3, embedded := false, tag := "", pkgPath := "", byteOffset := 24 }]) := ⟨Try.underlying90⟩
instance Try.tund91 : Und Try.prog 91 (.struct #[{ name := "Ctx", type := 3, offset := 0, embedded := false, tag := "", pkgPath := "", byteOffset := 0 }, { name := "Var", type := 3, offset := 1, embedded := false, tag := "", pkgPath := "", byteOffset := 8 }, { name := "Slot", type := 3, offset := 2, embedded := false, tag := "", pkgPath := "", byteOffset := 16 }, { name := "Words", type := 3, offset := 3, embedded := false, tag := "", pkgPath := "", byteOffset := 24 }]) := ⟨Try.underlying91⟩
instance Try.tfld7_0 : Fld Try.prog 7 0 0 2 := ⟨_, _, Try.underlying7, rfl, rfl, rfl⟩
instance Try.tfld7_1 : Fld Try.prog 7 1 1 3 := ⟨_, _, Try.underlying7, rfl, rfl, rfl⟩
instance Try.tfld7_2 : Fld Try.prog 7 2 2 4 := ⟨_, _, Try.underlying7, rfl, rfl, rfl⟩
instance Try.tfld7_3 : Fld Try.prog 7 3 3 6 := ⟨_, _, Try.underlying7, rfl, rfl, rfl⟩
instance Try.tpl7 : Places Try.prog  #[{ name := "x", type := 2, offset := 0, embedded := false, tag := "", pkgPath := "runtime", byteOffset := 0 }, { name := "y", type := 3, offset := 1, embedded := false, tag := "", pkgPath := "runtime", byteOffset := 8 }, { name := "signed", type := 4, offset := 2, embedded := false, tag := "", pkgPath := "runtime", byteOffset := 16 }, { name := "code", type := 6, offset := 3, embedded := false, tag := "", pkgPath := "runtime", byteOffset := 17 }] [(0, 1), (1, 1), (2, 1), (3, 1)] := ⟨by kernel_rfl⟩
instance Try.tfld8_0 : Fld Try.prog 8 0 0 2 := ⟨_, _, Try.underlying8, rfl, rfl, rfl⟩
instance Try.tfld8_1 : Fld Try.prog 8 1 1 3 := ⟨_, _, Try.underlying8, rfl, rfl, rfl⟩
instance Try.tfld8_2 : Fld Try.prog 8 2 2 4 := ⟨_, _, Try.underlying8, rfl, rfl, rfl⟩
instance Try.tfld8_3 : Fld Try.prog 8 3 3 6 := ⟨_, _, Try.underlying8, rfl, rfl, rfl⟩
instance Try.tfld13_0 : Fld Try.prog 13 0 0 9 := ⟨_, _, Try.underlying13, rfl, rfl, rfl⟩
instance Try.tfld13_1 : Fld Try.prog 13 1 1 12 := ⟨_, _, Try.underlying13, rfl, rfl, rfl⟩
instance Try.tpl13 : Places Try.prog  #[{ name := "msg", type := 9, offset := 0, embedded := false, tag := "", pkgPath := "runtime", byteOffset := 0 }, { name := "addr", type := 12, offset := 1, embedded := false, tag := "", pkgPath := "runtime", byteOffset := 16 }] [(0, 1), (1, 1)] := ⟨by kernel_rfl⟩
instance Try.tfld14_0 : Fld Try.prog 14 0 0 9 := ⟨_, _, Try.underlying14, rfl, rfl, rfl⟩
instance Try.tfld14_1 : Fld Try.prog 14 1 1 12 := ⟨_, _, Try.underlying14, rfl, rfl, rfl⟩
instance Try.tfld26_0 : Fld Try.prog 26 0 0 3 := ⟨_, _, Try.underlying26, rfl, rfl, rfl⟩
instance Try.tfld26_1 : Fld Try.prog 26 1 1 3 := ⟨_, _, Try.underlying26, rfl, rfl, rfl⟩
instance Try.tfld26_2 : Fld Try.prog 26 2 2 23 := ⟨_, _, Try.underlying26, rfl, rfl, rfl⟩
instance Try.tfld26_3 : Fld Try.prog 26 3 3 24 := ⟨_, _, Try.underlying26, rfl, rfl, rfl⟩
instance Try.tfld26_4 : Fld Try.prog 26 4 4 25 := ⟨_, _, Try.underlying26, rfl, rfl, rfl⟩
instance Try.tpl26 : Places Try.prog  #[{ name := "Level", type := 3, offset := 0, embedded := false, tag := "", pkgPath := "", byteOffset := 0 }, { name := "Code", type := 3, offset := 1, embedded := false, tag := "", pkgPath := "", byteOffset := 8 }, { name := "Records", type := 23, offset := 2, embedded := false, tag := "", pkgPath := "", byteOffset := 16 }, { name := "Stmts", type := 24, offset := 3, embedded := false, tag := "", pkgPath := "", byteOffset := 40 }, { name := "Procs", type := 25, offset := 4, embedded := false, tag := "", pkgPath := "", byteOffset := 64 }] [(0, 1), (1, 1), (2, 1), (3, 1), (4, 1)] := ⟨by kernel_rfl⟩
instance Try.tfld27_0 : Fld Try.prog 27 0 0 3 := ⟨_, _, Try.underlying27, rfl, rfl, rfl⟩
instance Try.tfld27_1 : Fld Try.prog 27 1 1 3 := ⟨_, _, Try.underlying27, rfl, rfl, rfl⟩
instance Try.tfld27_2 : Fld Try.prog 27 2 2 23 := ⟨_, _, Try.underlying27, rfl, rfl, rfl⟩
instance Try.tfld27_3 : Fld Try.prog 27 3 3 24 := ⟨_, _, Try.underlying27, rfl, rfl, rfl⟩
instance Try.tfld27_4 : Fld Try.prog 27 4 4 25 := ⟨_, _, Try.underlying27, rfl, rfl, rfl⟩
instance Try.tfld43_0 : Fld Try.prog 43 0 0 9 := ⟨_, _, Try.underlying43, rfl, rfl, rfl⟩
instance Try.tfld43_1 : Fld Try.prog 43 1 1 3 := ⟨_, _, Try.underlying43, rfl, rfl, rfl⟩
instance Try.tfld43_2 : Fld Try.prog 43 2 2 3 := ⟨_, _, Try.underlying43, rfl, rfl, rfl⟩
instance Try.tfld43_3 : Fld Try.prog 43 3 3 3 := ⟨_, _, Try.underlying43, rfl, rfl, rfl⟩
instance Try.tfld43_4 : Fld Try.prog 43 4 4 37 := ⟨_, _, Try.underlying43, rfl, rfl, rfl⟩
instance Try.tfld43_5 : Fld Try.prog 43 5 5 38 := ⟨_, _, Try.underlying43, rfl, rfl, rfl⟩
instance Try.tfld43_6 : Fld Try.prog 43 6 6 39 := ⟨_, _, Try.underlying43, rfl, rfl, rfl⟩
instance Try.tfld43_7 : Fld Try.prog 43 7 7 40 := ⟨_, _, Try.underlying43, rfl, rfl, rfl⟩
instance Try.tfld43_8 : Fld Try.prog 43 8 8 29 := ⟨_, _, Try.underlying43, rfl, rfl, rfl⟩
instance Try.tfld43_9 : Fld Try.prog 43 9 9 41 := ⟨_, _, Try.underlying43, rfl, rfl, rfl⟩
instance Try.tfld43_10 : Fld Try.prog 43 10 10 42 := ⟨_, _, Try.underlying43, rfl, rfl, rfl⟩
instance Try.tpl43 : Places Try.prog  #[{ name := "Name", type := 9, offset := 0, embedded := false, tag := "", pkgPath := "", byteOffset := 0 }, { name := "Line", type := 3, offset := 1, embedded := false, tag := "", pkgPath := "", byteOffset := 16 }, { name := "Lo", type := 3, offset := 2, embedded := false, tag := "", pkgPath := "", byteOffset := 24 }, { name := "Hi", type := 3, offset := 3, embedded := false, tag := "", pkgPath := "", byteOffset := 32 }, { name := "Vars", type := 37, offset := 4, embedded := false, tag := "", pkgPath := "", byteOffset := 40 }, { name := "Contexts", type := 38, offset := 5, embedded := false, tag := "", pkgPath := "", byteOffset := 64 }, { name := "Rows", type := 39, offset := 6, embedded := false, tag := "", pkgPath := "", byteOffset := 88 }, { name := "Ranges", type := 40, offset := 7, embedded := false, tag := "", pkgPath := "", byteOffset := 112 }, { name := "Sites", type := 29, offset := 8, embedded := false, tag := "", pkgPath := "", byteOffset := 136 }, { name := "Steps", type := 41, offset := 9, embedded := false, tag := "", pkgPath := "", byteOffset := 160 }, { name := "Objects", type := 42, offset := 10, embedded := false, tag := "", pkgPath := "", byteOffset := 184 }] [(0, 1), (1, 1), (2, 1), (3, 1), (4, 1), (5, 1), (6, 1), (7, 1), (8, 1), (9, 1), (10, 1)] := ⟨by kernel_rfl⟩
instance Try.tfld44_0 : Fld Try.prog 44 0 0 9 := ⟨_, _, Try.underlying44, rfl, rfl, rfl⟩
instance Try.tfld44_1 : Fld Try.prog 44 1 1 3 := ⟨_, _, Try.underlying44, rfl, rfl, rfl⟩
instance Try.tfld44_2 : Fld Try.prog 44 2 2 3 := ⟨_, _, Try.underlying44, rfl, rfl, rfl⟩
instance Try.tfld44_3 : Fld Try.prog 44 3 3 3 := ⟨_, _, Try.underlying44, rfl, rfl, rfl⟩
instance Try.tfld44_4 : Fld Try.prog 44 4 4 37 := ⟨_, _, Try.underlying44, rfl, rfl, rfl⟩
instance Try.tfld44_5 : Fld Try.prog 44 5 5 38 := ⟨_, _, Try.underlying44, rfl, rfl, rfl⟩
instance Try.tfld44_6 : Fld Try.prog 44 6 6 39 := ⟨_, _, Try.underlying44, rfl, rfl, rfl⟩
instance Try.tfld44_7 : Fld Try.prog 44 7 7 40 := ⟨_, _, Try.underlying44, rfl, rfl, rfl⟩
instance Try.tfld44_8 : Fld Try.prog 44 8 8 29 := ⟨_, _, Try.underlying44, rfl, rfl, rfl⟩
instance Try.tfld44_9 : Fld Try.prog 44 9 9 41 := ⟨_, _, Try.underlying44, rfl, rfl, rfl⟩
instance Try.tfld44_10 : Fld Try.prog 44 10 10 42 := ⟨_, _, Try.underlying44, rfl, rfl, rfl⟩
instance Try.tfld46_0 : Fld Try.prog 46 0 0 3 := ⟨_, _, Try.underlying46, rfl, rfl, rfl⟩
instance Try.tfld46_1 : Fld Try.prog 46 1 1 3 := ⟨_, _, Try.underlying46, rfl, rfl, rfl⟩
instance Try.tfld46_2 : Fld Try.prog 46 2 2 3 := ⟨_, _, Try.underlying46, rfl, rfl, rfl⟩
instance Try.tfld46_3 : Fld Try.prog 46 3 3 3 := ⟨_, _, Try.underlying46, rfl, rfl, rfl⟩
instance Try.tfld46_4 : Fld Try.prog 46 4 4 4 := ⟨_, _, Try.underlying46, rfl, rfl, rfl⟩
instance Try.tfld46_5 : Fld Try.prog 46 5 5 45 := ⟨_, _, Try.underlying46, rfl, rfl, rfl⟩
instance Try.tpl46 : Places Try.prog  #[{ name := "Addr", type := 3, offset := 0, embedded := false, tag := "", pkgPath := "", byteOffset := 0 }, { name := "Callee", type := 3, offset := 1, embedded := false, tag := "", pkgPath := "", byteOffset := 8 }, { name := "Ctx", type := 3, offset := 2, embedded := false, tag := "", pkgPath := "", byteOffset := 16 }, { name := "Stmt", type := 3, offset := 3, embedded := false, tag := "", pkgPath := "", byteOffset := 24 }, { name := "Tail", type := 4, offset := 4, embedded := false, tag := "", pkgPath := "", byteOffset := 32 }, { name := "Args", type := 45, offset := 5, embedded := false, tag := "", pkgPath := "", byteOffset := 40 }] [(0, 1), (1, 1), (2, 1), (3, 1), (4, 1), (5, 1)] := ⟨by kernel_rfl⟩
instance Try.tfld47_0 : Fld Try.prog 47 0 0 3 := ⟨_, _, Try.underlying47, rfl, rfl, rfl⟩
instance Try.tfld47_1 : Fld Try.prog 47 1 1 3 := ⟨_, _, Try.underlying47, rfl, rfl, rfl⟩
instance Try.tfld47_2 : Fld Try.prog 47 2 2 3 := ⟨_, _, Try.underlying47, rfl, rfl, rfl⟩
instance Try.tfld47_3 : Fld Try.prog 47 3 3 3 := ⟨_, _, Try.underlying47, rfl, rfl, rfl⟩
instance Try.tfld47_4 : Fld Try.prog 47 4 4 4 := ⟨_, _, Try.underlying47, rfl, rfl, rfl⟩
instance Try.tfld47_5 : Fld Try.prog 47 5 5 45 := ⟨_, _, Try.underlying47, rfl, rfl, rfl⟩
instance Try.tfld48_0 : Fld Try.prog 48 0 0 3 := ⟨_, _, Try.underlying48, rfl, rfl, rfl⟩
instance Try.tfld48_1 : Fld Try.prog 48 1 1 3 := ⟨_, _, Try.underlying48, rfl, rfl, rfl⟩
instance Try.tfld48_2 : Fld Try.prog 48 2 2 3 := ⟨_, _, Try.underlying48, rfl, rfl, rfl⟩
instance Try.tpl48 : Places Try.prog  #[{ name := "From", type := 3, offset := 0, embedded := false, tag := "", pkgPath := "", byteOffset := 0 }, { name := "To", type := 3, offset := 1, embedded := false, tag := "", pkgPath := "", byteOffset := 8 }, { name := "Addr", type := 3, offset := 2, embedded := false, tag := "", pkgPath := "", byteOffset := 16 }] [(0, 1), (1, 1), (2, 1)] := ⟨by kernel_rfl⟩
instance Try.tfld49_0 : Fld Try.prog 49 0 0 3 := ⟨_, _, Try.underlying49, rfl, rfl, rfl⟩
instance Try.tfld49_1 : Fld Try.prog 49 1 1 3 := ⟨_, _, Try.underlying49, rfl, rfl, rfl⟩
instance Try.tfld49_2 : Fld Try.prog 49 2 2 3 := ⟨_, _, Try.underlying49, rfl, rfl, rfl⟩
instance Try.tfld53_0 : Fld Try.prog 53 0 0 3 := ⟨_, _, Try.underlying53, rfl, rfl, rfl⟩
instance Try.tfld53_1 : Fld Try.prog 53 1 1 3 := ⟨_, _, Try.underlying53, rfl, rfl, rfl⟩
instance Try.tfld53_2 : Fld Try.prog 53 2 2 3 := ⟨_, _, Try.underlying53, rfl, rfl, rfl⟩
instance Try.tpl53 : Places Try.prog  #[{ name := "Kind", type := 3, offset := 0, embedded := false, tag := "", pkgPath := "", byteOffset := 0 }, { name := "N", type := 3, offset := 1, embedded := false, tag := "", pkgPath := "", byteOffset := 8 }, { name := "Add", type := 3, offset := 2, embedded := false, tag := "", pkgPath := "", byteOffset := 16 }] [(0, 1), (1, 1), (2, 1)] := ⟨by kernel_rfl⟩
instance Try.tfld54_0 : Fld Try.prog 54 0 0 3 := ⟨_, _, Try.underlying54, rfl, rfl, rfl⟩
instance Try.tfld54_1 : Fld Try.prog 54 1 1 3 := ⟨_, _, Try.underlying54, rfl, rfl, rfl⟩
instance Try.tfld54_2 : Fld Try.prog 54 2 2 3 := ⟨_, _, Try.underlying54, rfl, rfl, rfl⟩
instance Try.tfld60_0 : Fld Try.prog 60 0 0 17 := ⟨_, _, Try.underlying60, rfl, rfl, rfl⟩
instance Try.tfld60_1 : Fld Try.prog 60 1 1 17 := ⟨_, _, Try.underlying60, rfl, rfl, rfl⟩
instance Try.tfld60_2 : Fld Try.prog 60 2 2 17 := ⟨_, _, Try.underlying60, rfl, rfl, rfl⟩
instance Try.tfld60_3 : Fld Try.prog 60 3 3 9 := ⟨_, _, Try.underlying60, rfl, rfl, rfl⟩
instance Try.tpl60 : Places Try.prog  #[{ name := "_interface", type := 17, offset := 0, embedded := false, tag := "", pkgPath := "runtime", byteOffset := 0 }, { name := "concrete", type := 17, offset := 1, embedded := false, tag := "", pkgPath := "runtime", byteOffset := 8 }, { name := "asserted", type := 17, offset := 2, embedded := false, tag := "", pkgPath := "runtime", byteOffset := 16 }, { name := "missingMethod", type := 9, offset := 3, embedded := false, tag := "", pkgPath := "runtime", byteOffset := 24 }] [(0, 1), (1, 1), (2, 1), (3, 1)] := ⟨by kernel_rfl⟩
instance Try.tfld61_0 : Fld Try.prog 61 0 0 17 := ⟨_, _, Try.underlying61, rfl, rfl, rfl⟩
instance Try.tfld61_1 : Fld Try.prog 61 1 1 17 := ⟨_, _, Try.underlying61, rfl, rfl, rfl⟩
instance Try.tfld61_2 : Fld Try.prog 61 2 2 17 := ⟨_, _, Try.underlying61, rfl, rfl, rfl⟩
instance Try.tfld61_3 : Fld Try.prog 61 3 3 9 := ⟨_, _, Try.underlying61, rfl, rfl, rfl⟩
instance Try.tfld63_0 : Fld Try.prog 63 0 0 62 := ⟨_, _, Try.underlying63, rfl, rfl, rfl⟩
instance Try.tpl63 : Places Try.prog  #[{ name := "_", type := 62, offset := 0, embedded := false, tag := "", pkgPath := "runtime", byteOffset := 0 }] [(0, 0)] := ⟨by kernel_rfl⟩
instance Try.tfld64_0 : Fld Try.prog 64 0 0 62 := ⟨_, _, Try.underlying64, rfl, rfl, rfl⟩
instance Try.tfld73_0 : Fld Try.prog 73 0 0 12 := ⟨_, _, Try.underlying73, rfl, rfl, rfl⟩
instance Try.tfld73_1 : Fld Try.prog 73 1 1 12 := ⟨_, _, Try.underlying73, rfl, rfl, rfl⟩
instance Try.tfld73_2 : Fld Try.prog 73 2 2 66 := ⟨_, _, Try.underlying73, rfl, rfl, rfl⟩
instance Try.tfld73_3 : Fld Try.prog 73 3 3 67 := ⟨_, _, Try.underlying73, rfl, rfl, rfl⟩
instance Try.tfld73_4 : Fld Try.prog 73 4 4 5 := ⟨_, _, Try.underlying73, rfl, rfl, rfl⟩
instance Try.tfld73_5 : Fld Try.prog 73 5 5 5 := ⟨_, _, Try.underlying73, rfl, rfl, rfl⟩
instance Try.tfld73_6 : Fld Try.prog 73 6 6 68 := ⟨_, _, Try.underlying73, rfl, rfl, rfl⟩
instance Try.tfld73_7 : Fld Try.prog 73 7 7 69 := ⟨_, _, Try.underlying73, rfl, rfl, rfl⟩
instance Try.tfld73_8 : Fld Try.prog 73 8 8 70 := ⟨_, _, Try.underlying73, rfl, rfl, rfl⟩
instance Try.tfld73_9 : Fld Try.prog 73 9 9 71 := ⟨_, _, Try.underlying73, rfl, rfl, rfl⟩
instance Try.tfld73_10 : Fld Try.prog 73 10 10 72 := ⟨_, _, Try.underlying73, rfl, rfl, rfl⟩
instance Try.tpl73 : Places Try.prog  #[{ name := "Size_", type := 12, offset := 0, embedded := false, tag := "", pkgPath := "", byteOffset := 0 }, { name := "PtrBytes", type := 12, offset := 1, embedded := false, tag := "", pkgPath := "", byteOffset := 8 }, { name := "Hash", type := 66, offset := 2, embedded := false, tag := "", pkgPath := "", byteOffset := 16 }, { name := "TFlag", type := 67, offset := 3, embedded := false, tag := "", pkgPath := "", byteOffset := 20 }, { name := "Align_", type := 5, offset := 4, embedded := false, tag := "", pkgPath := "", byteOffset := 21 }, { name := "FieldAlign_", type := 5, offset := 5, embedded := false, tag := "", pkgPath := "", byteOffset := 22 }, { name := "Kind_", type := 68, offset := 6, embedded := false, tag := "", pkgPath := "", byteOffset := 23 }, { name := "Equal", type := 69, offset := 7, embedded := false, tag := "", pkgPath := "", byteOffset := 24 }, { name := "GCData", type := 70, offset := 8, embedded := false, tag := "", pkgPath := "", byteOffset := 32 }, { name := "Str", type := 71, offset := 9, embedded := false, tag := "", pkgPath := "", byteOffset := 40 }, { name := "PtrToThis", type := 72, offset := 10, embedded := false, tag := "", pkgPath := "", byteOffset := 44 }] [(0, 1), (1, 1), (2, 1), (3, 1), (4, 1), (5, 1), (6, 1), (7, 1), (8, 1), (9, 1), (10, 1)] := ⟨by kernel_rfl⟩
instance Try.tfld74_0 : Fld Try.prog 74 0 0 12 := ⟨_, _, Try.underlying74, rfl, rfl, rfl⟩
instance Try.tfld74_1 : Fld Try.prog 74 1 1 12 := ⟨_, _, Try.underlying74, rfl, rfl, rfl⟩
instance Try.tfld74_2 : Fld Try.prog 74 2 2 66 := ⟨_, _, Try.underlying74, rfl, rfl, rfl⟩
instance Try.tfld74_3 : Fld Try.prog 74 3 3 67 := ⟨_, _, Try.underlying74, rfl, rfl, rfl⟩
instance Try.tfld74_4 : Fld Try.prog 74 4 4 5 := ⟨_, _, Try.underlying74, rfl, rfl, rfl⟩
instance Try.tfld74_5 : Fld Try.prog 74 5 5 5 := ⟨_, _, Try.underlying74, rfl, rfl, rfl⟩
instance Try.tfld74_6 : Fld Try.prog 74 6 6 68 := ⟨_, _, Try.underlying74, rfl, rfl, rfl⟩
instance Try.tfld74_7 : Fld Try.prog 74 7 7 69 := ⟨_, _, Try.underlying74, rfl, rfl, rfl⟩
instance Try.tfld74_8 : Fld Try.prog 74 8 8 70 := ⟨_, _, Try.underlying74, rfl, rfl, rfl⟩
instance Try.tfld74_9 : Fld Try.prog 74 9 9 71 := ⟨_, _, Try.underlying74, rfl, rfl, rfl⟩
instance Try.tfld74_10 : Fld Try.prog 74 10 10 72 := ⟨_, _, Try.underlying74, rfl, rfl, rfl⟩
instance Try.tfld76_0 : Fld Try.prog 76 0 0 9 := ⟨_, _, Try.underlying76, rfl, rfl, rfl⟩
instance Try.tfld76_1 : Fld Try.prog 76 1 1 75 := ⟨_, _, Try.underlying76, rfl, rfl, rfl⟩
instance Try.tpl76 : Places Try.prog  #[{ name := "Name", type := 9, offset := 0, embedded := false, tag := "", pkgPath := "", byteOffset := 0 }, { name := "Fields", type := 75, offset := 1, embedded := false, tag := "", pkgPath := "", byteOffset := 16 }] [(0, 1), (1, 1)] := ⟨by kernel_rfl⟩
instance Try.tfld77_0 : Fld Try.prog 77 0 0 9 := ⟨_, _, Try.underlying77, rfl, rfl, rfl⟩
instance Try.tfld77_1 : Fld Try.prog 77 1 1 75 := ⟨_, _, Try.underlying77, rfl, rfl, rfl⟩
instance Try.tfld78_0 : Fld Try.prog 78 0 0 3 := ⟨_, _, Try.underlying78, rfl, rfl, rfl⟩
instance Try.tfld78_1 : Fld Try.prog 78 1 1 3 := ⟨_, _, Try.underlying78, rfl, rfl, rfl⟩
instance Try.tfld78_2 : Fld Try.prog 78 2 2 3 := ⟨_, _, Try.underlying78, rfl, rfl, rfl⟩
instance Try.tpl78 : Places Try.prog  #[{ name := "Func", type := 3, offset := 0, embedded := false, tag := "", pkgPath := "", byteOffset := 0 }, { name := "Kind", type := 3, offset := 1, embedded := false, tag := "", pkgPath := "", byteOffset := 8 }, { name := "Line", type := 3, offset := 2, embedded := false, tag := "", pkgPath := "", byteOffset := 16 }] [(0, 1), (1, 1), (2, 1)] := ⟨by kernel_rfl⟩
instance Try.tfld79_0 : Fld Try.prog 79 0 0 3 := ⟨_, _, Try.underlying79, rfl, rfl, rfl⟩
instance Try.tfld79_1 : Fld Try.prog 79 1 1 3 := ⟨_, _, Try.underlying79, rfl, rfl, rfl⟩
instance Try.tfld79_2 : Fld Try.prog 79 2 2 3 := ⟨_, _, Try.underlying79, rfl, rfl, rfl⟩
instance Try.tfld80_0 : Fld Try.prog 80 0 0 9 := ⟨_, _, Try.underlying80, rfl, rfl, rfl⟩
instance Try.tfld80_1 : Fld Try.prog 80 1 1 3 := ⟨_, _, Try.underlying80, rfl, rfl, rfl⟩
instance Try.tfld80_2 : Fld Try.prog 80 2 2 3 := ⟨_, _, Try.underlying80, rfl, rfl, rfl⟩
instance Try.tfld80_3 : Fld Try.prog 80 3 3 3 := ⟨_, _, Try.underlying80, rfl, rfl, rfl⟩
instance Try.tfld80_4 : Fld Try.prog 80 4 4 4 := ⟨_, _, Try.underlying80, rfl, rfl, rfl⟩
instance Try.tfld80_5 : Fld Try.prog 80 5 5 3 := ⟨_, _, Try.underlying80, rfl, rfl, rfl⟩
instance Try.tfld80_6 : Fld Try.prog 80 6 6 3 := ⟨_, _, Try.underlying80, rfl, rfl, rfl⟩
instance Try.tpl80 : Places Try.prog  #[{ name := "Name", type := 9, offset := 0, embedded := false, tag := "", pkgPath := "", byteOffset := 0 }, { name := "Kind", type := 3, offset := 1, embedded := false, tag := "", pkgPath := "", byteOffset := 16 }, { name := "Record", type := 3, offset := 2, embedded := false, tag := "", pkgPath := "", byteOffset := 24 }, { name := "Words", type := 3, offset := 3, embedded := false, tag := "", pkgPath := "", byteOffset := 32 }, { name := "Param", type := 4, offset := 4, embedded := false, tag := "", pkgPath := "", byteOffset := 40 }, { name := "From", type := 3, offset := 5, embedded := false, tag := "", pkgPath := "", byteOffset := 48 }, { name := "To", type := 3, offset := 6, embedded := false, tag := "", pkgPath := "", byteOffset := 56 }] [(0, 1), (1, 1), (2, 1), (3, 1), (4, 1), (5, 1), (6, 1)] := ⟨by kernel_rfl⟩
instance Try.tfld81_0 : Fld Try.prog 81 0 0 9 := ⟨_, _, Try.underlying81, rfl, rfl, rfl⟩
instance Try.tfld81_1 : Fld Try.prog 81 1 1 3 := ⟨_, _, Try.underlying81, rfl, rfl, rfl⟩
instance Try.tfld81_2 : Fld Try.prog 81 2 2 3 := ⟨_, _, Try.underlying81, rfl, rfl, rfl⟩
instance Try.tfld81_3 : Fld Try.prog 81 3 3 3 := ⟨_, _, Try.underlying81, rfl, rfl, rfl⟩
instance Try.tfld81_4 : Fld Try.prog 81 4 4 4 := ⟨_, _, Try.underlying81, rfl, rfl, rfl⟩
instance Try.tfld81_5 : Fld Try.prog 81 5 5 3 := ⟨_, _, Try.underlying81, rfl, rfl, rfl⟩
instance Try.tfld81_6 : Fld Try.prog 81 6 6 3 := ⟨_, _, Try.underlying81, rfl, rfl, rfl⟩
instance Try.tfld82_0 : Fld Try.prog 82 0 0 3 := ⟨_, _, Try.underlying82, rfl, rfl, rfl⟩
instance Try.tfld82_1 : Fld Try.prog 82 1 1 3 := ⟨_, _, Try.underlying82, rfl, rfl, rfl⟩
instance Try.tfld82_2 : Fld Try.prog 82 2 2 3 := ⟨_, _, Try.underlying82, rfl, rfl, rfl⟩
instance Try.tpl82 : Places Try.prog  #[{ name := "Parent", type := 3, offset := 0, embedded := false, tag := "", pkgPath := "", byteOffset := 0 }, { name := "Stmt", type := 3, offset := 1, embedded := false, tag := "", pkgPath := "", byteOffset := 8 }, { name := "Func", type := 3, offset := 2, embedded := false, tag := "", pkgPath := "", byteOffset := 16 }] [(0, 1), (1, 1), (2, 1)] := ⟨by kernel_rfl⟩
instance Try.tfld83_0 : Fld Try.prog 83 0 0 3 := ⟨_, _, Try.underlying83, rfl, rfl, rfl⟩
instance Try.tfld83_1 : Fld Try.prog 83 1 1 3 := ⟨_, _, Try.underlying83, rfl, rfl, rfl⟩
instance Try.tfld83_2 : Fld Try.prog 83 2 2 3 := ⟨_, _, Try.underlying83, rfl, rfl, rfl⟩
instance Try.tfld84_0 : Fld Try.prog 84 0 0 3 := ⟨_, _, Try.underlying84, rfl, rfl, rfl⟩
instance Try.tfld84_1 : Fld Try.prog 84 1 1 3 := ⟨_, _, Try.underlying84, rfl, rfl, rfl⟩
instance Try.tfld84_2 : Fld Try.prog 84 2 2 3 := ⟨_, _, Try.underlying84, rfl, rfl, rfl⟩
instance Try.tfld84_3 : Fld Try.prog 84 3 3 4 := ⟨_, _, Try.underlying84, rfl, rfl, rfl⟩
instance Try.tpl84 : Places Try.prog  #[{ name := "Addr", type := 3, offset := 0, embedded := false, tag := "", pkgPath := "", byteOffset := 0 }, { name := "Ctx", type := 3, offset := 1, embedded := false, tag := "", pkgPath := "", byteOffset := 8 }, { name := "Stmt", type := 3, offset := 2, embedded := false, tag := "", pkgPath := "", byteOffset := 16 }, { name := "Mark", type := 4, offset := 3, embedded := false, tag := "", pkgPath := "", byteOffset := 24 }] [(0, 1), (1, 1), (2, 1), (3, 1)] := ⟨by kernel_rfl⟩
instance Try.tfld85_0 : Fld Try.prog 85 0 0 3 := ⟨_, _, Try.underlying85, rfl, rfl, rfl⟩
instance Try.tfld85_1 : Fld Try.prog 85 1 1 3 := ⟨_, _, Try.underlying85, rfl, rfl, rfl⟩
instance Try.tfld85_2 : Fld Try.prog 85 2 2 3 := ⟨_, _, Try.underlying85, rfl, rfl, rfl⟩
instance Try.tfld85_3 : Fld Try.prog 85 3 3 4 := ⟨_, _, Try.underlying85, rfl, rfl, rfl⟩
instance Try.tfld86_0 : Fld Try.prog 86 0 0 3 := ⟨_, _, Try.underlying86, rfl, rfl, rfl⟩
instance Try.tfld86_1 : Fld Try.prog 86 1 1 3 := ⟨_, _, Try.underlying86, rfl, rfl, rfl⟩
instance Try.tfld86_2 : Fld Try.prog 86 2 2 3 := ⟨_, _, Try.underlying86, rfl, rfl, rfl⟩
instance Try.tfld86_3 : Fld Try.prog 86 3 3 3 := ⟨_, _, Try.underlying86, rfl, rfl, rfl⟩
instance Try.tfld86_4 : Fld Try.prog 86 4 4 3 := ⟨_, _, Try.underlying86, rfl, rfl, rfl⟩
instance Try.tfld86_5 : Fld Try.prog 86 5 5 45 := ⟨_, _, Try.underlying86, rfl, rfl, rfl⟩
instance Try.tpl86 : Places Try.prog  #[{ name := "Ctx", type := 3, offset := 0, embedded := false, tag := "", pkgPath := "", byteOffset := 0 }, { name := "Var", type := 3, offset := 1, embedded := false, tag := "", pkgPath := "", byteOffset := 8 }, { name := "Piece", type := 3, offset := 2, embedded := false, tag := "", pkgPath := "", byteOffset := 16 }, { name := "Lo", type := 3, offset := 3, embedded := false, tag := "", pkgPath := "", byteOffset := 24 }, { name := "Hi", type := 3, offset := 4, embedded := false, tag := "", pkgPath := "", byteOffset := 32 }, { name := "Places", type := 45, offset := 5, embedded := false, tag := "", pkgPath := "", byteOffset := 40 }] [(0, 1), (1, 1), (2, 1), (3, 1), (4, 1), (5, 1)] := ⟨by kernel_rfl⟩
instance Try.tfld87_0 : Fld Try.prog 87 0 0 3 := ⟨_, _, Try.underlying87, rfl, rfl, rfl⟩
instance Try.tfld87_1 : Fld Try.prog 87 1 1 3 := ⟨_, _, Try.underlying87, rfl, rfl, rfl⟩
instance Try.tfld87_2 : Fld Try.prog 87 2 2 3 := ⟨_, _, Try.underlying87, rfl, rfl, rfl⟩
instance Try.tfld87_3 : Fld Try.prog 87 3 3 3 := ⟨_, _, Try.underlying87, rfl, rfl, rfl⟩
instance Try.tfld87_4 : Fld Try.prog 87 4 4 3 := ⟨_, _, Try.underlying87, rfl, rfl, rfl⟩
instance Try.tfld87_5 : Fld Try.prog 87 5 5 45 := ⟨_, _, Try.underlying87, rfl, rfl, rfl⟩
instance Try.tfld88_0 : Fld Try.prog 88 0 0 3 := ⟨_, _, Try.underlying88, rfl, rfl, rfl⟩
instance Try.tfld88_1 : Fld Try.prog 88 1 1 3 := ⟨_, _, Try.underlying88, rfl, rfl, rfl⟩
instance Try.tpl88 : Places Try.prog  #[{ name := "Addr", type := 3, offset := 0, embedded := false, tag := "", pkgPath := "", byteOffset := 0 }, { name := "Offset", type := 3, offset := 1, embedded := false, tag := "", pkgPath := "", byteOffset := 8 }] [(0, 1), (1, 1)] := ⟨by kernel_rfl⟩
instance Try.tfld89_0 : Fld Try.prog 89 0 0 3 := ⟨_, _, Try.underlying89, rfl, rfl, rfl⟩
instance Try.tfld89_1 : Fld Try.prog 89 1 1 3 := ⟨_, _, Try.underlying89, rfl, rfl, rfl⟩
instance Try.tfld90_0 : Fld Try.prog 90 0 0 3 := ⟨_, _, Try.underlying90, rfl, rfl, rfl⟩
instance Try.tfld90_1 : Fld Try.prog 90 1 1 3 := ⟨_, _, Try.underlying90, rfl, rfl, rfl⟩
instance Try.tfld90_2 : Fld Try.prog 90 2 2 3 := ⟨_, _, Try.underlying90, rfl, rfl, rfl⟩
instance Try.tfld90_3 : Fld Try.prog 90 3 3 3 := ⟨_, _, Try.underlying90, rfl, rfl, rfl⟩
instance Try.tpl90 : Places Try.prog  #[{ name := "Ctx", type := 3, offset := 0, embedded := false, tag := "", pkgPath := "", byteOffset := 0 }, { name := "Var", type := 3, offset := 1, embedded := false, tag := "", pkgPath := "", byteOffset := 8 }, { name := "Slot", type := 3, offset := 2, embedded := false, tag := "", pkgPath := "", byteOffset := 16 }, { name := "Words", type := 3, offset := 3, embedded := false, tag := "", pkgPath := "", byteOffset := 24 }] [(0, 1), (1, 1), (2, 1), (3, 1)] := ⟨by kernel_rfl⟩
instance Try.tfld91_0 : Fld Try.prog 91 0 0 3 := ⟨_, _, Try.underlying91, rfl, rfl, rfl⟩
instance Try.tfld91_1 : Fld Try.prog 91 1 1 3 := ⟨_, _, Try.underlying91, rfl, rfl, rfl⟩
instance Try.tfld91_2 : Fld Try.prog 91 2 2 3 := ⟨_, _, Try.underlying91, rfl, rfl, rfl⟩
instance Try.tfld91_3 : Fld Try.prog 91 3 3 3 := ⟨_, _, Try.underlying91, rfl, rfl, rfl⟩
instance Try.gofun3 : GoFun Try.prog 3 := ⟨_, Try.func3, by kernel_rfl, by kernel_rfl⟩
instance Try.gofun4 : GoFun Try.prog 4 := ⟨_, Try.func4, by kernel_rfl, by kernel_rfl⟩
instance Try.gofun5 : GoFun Try.prog 5 := ⟨_, Try.func5, by kernel_rfl, by kernel_rfl⟩
instance Try.gofun6 : GoFun Try.prog 6 := ⟨_, Try.func6, by kernel_rfl, by kernel_rfl⟩
instance Try.gofun7 : GoFun Try.prog 7 := ⟨_, Try.func7, by kernel_rfl, by kernel_rfl⟩
instance Try.gofun8 : GoFun Try.prog 8 := ⟨_, Try.func8, by kernel_rfl, by kernel_rfl⟩
instance Try.gofun9 : GoFun Try.prog 9 := ⟨_, Try.func9, by kernel_rfl, by kernel_rfl⟩
instance Try.gofun10 : GoFun Try.prog 10 := ⟨_, Try.func10, by kernel_rfl, by kernel_rfl⟩
instance Try.gofun11 : GoFun Try.prog 11 := ⟨_, Try.func11, by kernel_rfl, by kernel_rfl⟩
instance Try.gofun12 : GoFun Try.prog 12 := ⟨_, Try.func12, by kernel_rfl, by kernel_rfl⟩
instance Try.gofun13 : GoFun Try.prog 13 := ⟨_, Try.func13, by kernel_rfl, by kernel_rfl⟩
instance Try.gofun14 : GoFun Try.prog 14 := ⟨_, Try.func14, by kernel_rfl, by kernel_rfl⟩
instance Try.gofun15 : GoFun Try.prog 15 := ⟨_, Try.func15, by kernel_rfl, by kernel_rfl⟩
end Go.Proofs
