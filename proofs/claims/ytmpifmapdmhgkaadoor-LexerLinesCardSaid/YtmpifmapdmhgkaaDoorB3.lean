/- The types and functions of the translated program, as instances; by program (gen_types.py). No conditions. -/
import Derived.Test.YtmpifmapdmhgkaaDoorProg
import Derived.KernelRfl
import Derived.Test.YtmpifmapdmhgkaaDoorRows
import Derived.Test.YtmpifmapdmhgkaaDoorTie
import Derived.Test.YtmpifmapdmhgkaaDoorCards
import Derived.ProofKit
import Derived.OpenShut
import Derived.Lay
import Derived.Lib.LaidTab
import Derived.Sort.Grow
import Derived.Test.YtmpifmapdmhgkaaDoorB2
namespace Go.Proofs
open Go.AM

instance Tryd.tinf2 : Inf Tryd.prog 2 1 8 (.int .i64 0) := ⟨by kernel_rfl⟩
instance Tryd.tinf3 : Inf Tryd.prog 3 1 8 (.int .i64 0) := ⟨by kernel_rfl⟩
instance Tryd.tinf4 : Inf Tryd.prog 4 1 1 (.bool false) := ⟨by kernel_rfl⟩
instance Tryd.tinf5 : Inf Tryd.prog 5 1 1 (.int .u8 0) := ⟨by kernel_rfl⟩
instance Tryd.tinf6 : Inf Tryd.prog 6 1 1 (.int .u8 0) := ⟨by kernel_rfl⟩
instance Tryd.tinf7 : Inf Tryd.prog 7 4 24 (.agg #[.int .i64 0, .int .i64 0, .bool false, .int .u8 0]) := ⟨by kernel_rfl⟩
instance Tryd.tinf8 : Inf Tryd.prog 8 4 24 (.agg #[.int .i64 0, .int .i64 0, .bool false, .int .u8 0]) := ⟨by kernel_rfl⟩
instance Tryd.tinf9 : Inf Tryd.prog 9 1 16 (.string ⟨#[]⟩) := ⟨by kernel_rfl⟩
instance Tryd.tinf10 : Inf Tryd.prog 10 1 16 (.string ⟨#[]⟩) := ⟨by kernel_rfl⟩
instance Tryd.tinf11 : Inf Tryd.prog 11 1 16 (.string ⟨#[]⟩) := ⟨by kernel_rfl⟩
instance Tryd.tinf12 : Inf Tryd.prog 12 1 8 (.int .u64 0) := ⟨by kernel_rfl⟩
instance Tryd.tinf13 : Inf Tryd.prog 13 2 24 (.agg #[.string ⟨#[]⟩, .int .u64 0]) := ⟨by kernel_rfl⟩
instance Tryd.tinf14 : Inf Tryd.prog 14 2 24 (.agg #[.string ⟨#[]⟩, .int .u64 0]) := ⟨by kernel_rfl⟩
instance Tryd.tinf15 : Inf Tryd.prog 15 1 8 (.pointer none) := ⟨by kernel_rfl⟩
instance Tryd.tinf16 : Inf Tryd.prog 16 1 8 (.pointer none) := ⟨by kernel_rfl⟩
instance Tryd.tinf17 : Inf Tryd.prog 17 1 8 (.pointer none) := ⟨by kernel_rfl⟩
instance Tryd.tinf18 : Inf Tryd.prog 18 1 8 (.agg #[.pointer none]) := ⟨by kernel_rfl⟩
instance Tryd.tinf19 : Inf Tryd.prog 19 1 8 (.agg #[.pointer none]) := ⟨by kernel_rfl⟩
instance Tryd.tinf21 : Inf Tryd.prog 21 1 4 (.int .i32 0) := ⟨by kernel_rfl⟩
instance Tryd.tinf22 : Inf Tryd.prog 22 1 24 (.slice none 0 0) := ⟨by kernel_rfl⟩
instance Tryd.tinf29 : Inf Tryd.prog 29 1 24 (.slice none 0 0) := ⟨by kernel_rfl⟩
instance Tryd.tinf31 : Inf Tryd.prog 31 1 24 (.slice none 0 0) := ⟨by kernel_rfl⟩
instance Tryd.tinf32 : Inf Tryd.prog 32 1 8 (.int .i64 0) := ⟨by kernel_rfl⟩
instance Tryd.tinf35 : Inf Tryd.prog 35 4 40 (.agg #[.int .i64 0, .int .i64 0, .string ⟨#[]⟩, .int .i64 0]) := ⟨by kernel_rfl⟩
instance Tryd.tinf36 : Inf Tryd.prog 36 4 40 (.agg #[.int .i64 0, .int .i64 0, .string ⟨#[]⟩, .int .i64 0]) := ⟨by kernel_rfl⟩
instance Tryd.tinf37 : Inf Tryd.prog 37 1 24 (.slice none 0 0) := ⟨by kernel_rfl⟩
instance Tryd.tinf45 : Inf Tryd.prog 45 1 24 (.slice none 0 0) := ⟨by kernel_rfl⟩
instance Tryd.tinf46 : Inf Tryd.prog 46 1 24 (.slice none 0 0) := ⟨by kernel_rfl⟩
instance Tryd.tinf47 : Inf Tryd.prog 47 2 48 (.agg #[.slice none 0 0, .slice none 0 0]) := ⟨by kernel_rfl⟩
instance Tryd.tinf48 : Inf Tryd.prog 48 2 48 (.agg #[.slice none 0 0, .slice none 0 0]) := ⟨by kernel_rfl⟩
instance Tryd.tinf50 : Inf Tryd.prog 50 1 8 (.map none) := ⟨by kernel_rfl⟩
instance Tryd.tinf51 : Inf Tryd.prog 51 4 40 (.agg #[.string ⟨#[]⟩, .int .i64 0, .int .i64 0, .map none]) := ⟨by kernel_rfl⟩
instance Tryd.tinf52 : Inf Tryd.prog 52 4 40 (.agg #[.string ⟨#[]⟩, .int .i64 0, .int .i64 0, .map none]) := ⟨by kernel_rfl⟩
instance Tryd.tinf53 : Inf Tryd.prog 53 12 192 (.agg #[.string ⟨#[]⟩, .string ⟨#[]⟩, .string ⟨#[]⟩, .string ⟨#[]⟩, .string ⟨#[]⟩, .string ⟨#[]⟩, .string ⟨#[]⟩, .string ⟨#[]⟩, .string ⟨#[]⟩, .string ⟨#[]⟩, .string ⟨#[]⟩, .string ⟨#[]⟩]) := ⟨by kernel_rfl⟩
instance Tryd.tinf60 : Inf Tryd.prog 60 2 40 (.agg #[.string ⟨#[]⟩, .slice none 0 0]) := ⟨by kernel_rfl⟩
instance Tryd.tinf61 : Inf Tryd.prog 61 2 40 (.agg #[.string ⟨#[]⟩, .slice none 0 0]) := ⟨by kernel_rfl⟩
instance Tryd.tinf63 : Inf Tryd.prog 63 1 24 (.slice none 0 0) := ⟨by kernel_rfl⟩
instance Tryd.tinf64 : Inf Tryd.prog 64 4 72 (.agg #[.string ⟨#[]⟩, .int .i64 0, .slice none 0 0, .slice none 0 0]) := ⟨by kernel_rfl⟩
instance Tryd.tinf65 : Inf Tryd.prog 65 4 72 (.agg #[.string ⟨#[]⟩, .int .i64 0, .slice none 0 0, .slice none 0 0]) := ⟨by kernel_rfl⟩
instance Tryd.tinf67 : Inf Tryd.prog 67 1 8 (.pointer none) := ⟨by kernel_rfl⟩
instance Tryd.tinf68 : Inf Tryd.prog 68 2 32 (.agg #[.slice none 0 0, .int .i64 0]) := ⟨by kernel_rfl⟩
instance Tryd.tinf69 : Inf Tryd.prog 69 2 32 (.agg #[.slice none 0 0, .int .i64 0]) := ⟨by kernel_rfl⟩
instance Tryd.tinf71 : Inf Tryd.prog 71 1 8 (.pointer none) := ⟨by kernel_rfl⟩
instance Tryd.tinf72 : Inf Tryd.prog 72 9 136 (.agg #[.pointer none, .int .i64 0, .int .i64 0, .slice none 0 0, .slice none 0 0, .slice none 0 0, .slice none 0 0, .int .i64 0, .int .i64 0]) := ⟨by kernel_rfl⟩
instance Tryd.tinf73 : Inf Tryd.prog 73 9 136 (.agg #[.pointer none, .int .i64 0, .int .i64 0, .slice none 0 0, .slice none 0 0, .slice none 0 0, .slice none 0 0, .int .i64 0, .int .i64 0]) := ⟨by kernel_rfl⟩
instance Tryd.tinf75 : Inf Tryd.prog 75 1 24 (.slice none 0 0) := ⟨by kernel_rfl⟩
instance Tryd.tinf76 : Inf Tryd.prog 76 6 80 (.agg #[.int .i64 0, .int .i64 0, .int .i64 0, .string ⟨#[]⟩, .string ⟨#[]⟩, .slice none 0 0]) := ⟨by kernel_rfl⟩
instance Tryd.tinf77 : Inf Tryd.prog 77 6 80 (.agg #[.int .i64 0, .int .i64 0, .int .i64 0, .string ⟨#[]⟩, .string ⟨#[]⟩, .slice none 0 0]) := ⟨by kernel_rfl⟩
instance Tryd.tinf79 : Inf Tryd.prog 79 13 192 (.agg #[.int .i64 0, .int .i64 0, .int .i64 0, .string ⟨#[]⟩, .string ⟨#[]⟩, .int .i64 0, .int .i64 0, .slice none 0 0, .string ⟨#[]⟩, .int .i64 0, .slice none 0 0, .slice none 0 0, .slice none 0 0]) := ⟨by kernel_rfl⟩
instance Tryd.tinf80 : Inf Tryd.prog 80 13 192 (.agg #[.int .i64 0, .int .i64 0, .int .i64 0, .string ⟨#[]⟩, .string ⟨#[]⟩, .int .i64 0, .int .i64 0, .slice none 0 0, .string ⟨#[]⟩, .int .i64 0, .slice none 0 0, .slice none 0 0, .slice none 0 0]) := ⟨by kernel_rfl⟩
instance Tryd.tinf81 : Inf Tryd.prog 81 1 8 (.pointer none) := ⟨by kernel_rfl⟩
instance Tryd.tinf85 : Inf Tryd.prog 85 24 384 (.agg #[.string ⟨#[]⟩, .string ⟨#[]⟩, .string ⟨#[]⟩, .string ⟨#[]⟩, .string ⟨#[]⟩, .string ⟨#[]⟩, .string ⟨#[]⟩, .string ⟨#[]⟩, .string ⟨#[]⟩, .string ⟨#[]⟩, .string ⟨#[]⟩, .string ⟨#[]⟩, .string ⟨#[]⟩, .string ⟨#[]⟩, .string ⟨#[]⟩, .string ⟨#[]⟩, .string ⟨#[]⟩, .string ⟨#[]⟩, .string ⟨#[]⟩, .string ⟨#[]⟩, .string ⟨#[]⟩, .string ⟨#[]⟩, .string ⟨#[]⟩, .string ⟨#[]⟩]) := ⟨by kernel_rfl⟩
instance Tryd.tinf95 : Inf Tryd.prog 95 1 8 (.pointer none) := ⟨by kernel_rfl⟩
instance Tryd.tinf98 : Inf Tryd.prog 98 4 40 (.agg #[.pointer none, .pointer none, .pointer none, .string ⟨#[]⟩]) := ⟨by kernel_rfl⟩
instance Tryd.tinf99 : Inf Tryd.prog 99 4 40 (.agg #[.pointer none, .pointer none, .pointer none, .string ⟨#[]⟩]) := ⟨by kernel_rfl⟩
instance Tryd.tinf100 : Inf Tryd.prog 100 0 0 (.agg #[]) := ⟨by kernel_rfl⟩
instance Tryd.tinf101 : Inf Tryd.prog 101 0 0 (.agg #[]) := ⟨by kernel_rfl⟩
instance Tryd.tinf102 : Inf Tryd.prog 102 0 0 (.agg #[]) := ⟨by kernel_rfl⟩
instance Tryd.tinf104 : Inf Tryd.prog 104 1 4 (.int .u32 0) := ⟨by kernel_rfl⟩
instance Tryd.tinf105 : Inf Tryd.prog 105 1 1 (.int .u8 0) := ⟨by kernel_rfl⟩
instance Tryd.tinf106 : Inf Tryd.prog 106 1 1 (.int .u8 0) := ⟨by kernel_rfl⟩
instance Tryd.tinf108 : Inf Tryd.prog 108 1 8 (.pointer none) := ⟨by kernel_rfl⟩
instance Tryd.tinf109 : Inf Tryd.prog 109 1 4 (.int .i32 0) := ⟨by kernel_rfl⟩
instance Tryd.tinf110 : Inf Tryd.prog 110 1 4 (.int .i32 0) := ⟨by kernel_rfl⟩
instance Tryd.tinf111 : Inf Tryd.prog 111 11 48 (.agg #[.int .u64 0, .int .u64 0, .int .u32 0, .int .u8 0, .int .u8 0, .int .u8 0, .int .u8 0, .nilFunc, .pointer none, .int .i32 0, .int .i32 0]) := ⟨by kernel_rfl⟩
instance Tryd.tinf112 : Inf Tryd.prog 112 11 48 (.agg #[.int .u64 0, .int .u64 0, .int .u32 0, .int .u8 0, .int .u8 0, .int .u8 0, .int .u8 0, .nilFunc, .pointer none, .int .i32 0, .int .i32 0]) := ⟨by kernel_rfl⟩
instance Tryd.tund2 : Und Tryd.prog 2 (.int .i64) := ⟨Tryd.underlying2⟩
instance Tryd.tund3 : Und Tryd.prog 3 (.int .i64) := ⟨Tryd.underlying3⟩
instance Tryd.tund4 : Und Tryd.prog 4 .bool := ⟨Tryd.underlying4⟩
instance Tryd.tund5 : Und Tryd.prog 5 (.int .u8) := ⟨Tryd.underlying5⟩
instance Tryd.tund6 : Und Tryd.prog 6 (.int .u8) := ⟨Tryd.underlying6⟩
instance Tryd.tund7 : Und Tryd.prog 7 (.struct (fOf Tryd.underlying7)) := ⟨Tryd.underlying7⟩
instance Tryd.tund8 : Und Tryd.prog 8 (.struct (fOf Tryd.underlying8)) := ⟨Tryd.underlying8⟩
instance Tryd.tund9 : Und Tryd.prog 9 .string := ⟨Tryd.underlying9⟩
instance Tryd.tund10 : Und Tryd.prog 10 .string := ⟨Tryd.underlying10⟩
instance Tryd.tund11 : Und Tryd.prog 11 .string := ⟨Tryd.underlying11⟩
instance Tryd.tund12 : Und Tryd.prog 12 (.int .u64) := ⟨Tryd.underlying12⟩
instance Tryd.tund13 : Und Tryd.prog 13 (.struct (fOf Tryd.underlying13)) := ⟨Tryd.underlying13⟩
instance Tryd.tund14 : Und Tryd.prog 14 (.struct (fOf Tryd.underlying14)) := ⟨Tryd.underlying14⟩
instance Tryd.tund15 : Und Tryd.prog 15 (.pointer 99) := ⟨Tryd.underlying15⟩
instance Tryd.tund16 : Und Tryd.prog 16 (.pointer 102) := ⟨Tryd.underlying16⟩
instance Tryd.tund17 : Und Tryd.prog 17 (.pointer 112) := ⟨Tryd.underlying17⟩
instance Tryd.tund18 : Und Tryd.prog 18 (.struct (fOf Tryd.underlying18)) := ⟨Tryd.underlying18⟩
instance Tryd.tund19 : Und Tryd.prog 19 (.struct (fOf Tryd.underlying19)) := ⟨Tryd.underlying19⟩
instance Tryd.tund21 : Und Tryd.prog 21 (.int .i32) := ⟨Tryd.underlying21⟩
instance Tryd.tund22 : Und Tryd.prog 22 (.slice 3) := ⟨Tryd.underlying22⟩
instance Tryd.tund29 : Und Tryd.prog 29 (.slice 5) := ⟨Tryd.underlying29⟩
instance Tryd.tund31 : Und Tryd.prog 31 (.slice 36) := ⟨Tryd.underlying31⟩
instance Tryd.tund32 : Und Tryd.prog 32 (.int .i64) := ⟨Tryd.underlying32⟩
instance Tryd.tund35 : Und Tryd.prog 35 (.struct (fOf Tryd.underlying35)) := ⟨Tryd.underlying35⟩
instance Tryd.tund36 : Und Tryd.prog 36 (.struct (fOf Tryd.underlying36)) := ⟨Tryd.underlying36⟩
instance Tryd.tund37 : Und Tryd.prog 37 (.slice 9) := ⟨Tryd.underlying37⟩
instance Tryd.tund45 : Und Tryd.prog 45 (.slice 61) := ⟨Tryd.underlying45⟩
instance Tryd.tund46 : Und Tryd.prog 46 (.slice 65) := ⟨Tryd.underlying46⟩
instance Tryd.tund47 : Und Tryd.prog 47 (.struct (fOf Tryd.underlying47)) := ⟨Tryd.underlying47⟩
instance Tryd.tund48 : Und Tryd.prog 48 (.struct (fOf Tryd.underlying48)) := ⟨Tryd.underlying48⟩
instance Tryd.tund50 : Und Tryd.prog 50 (.map 9 4) := ⟨Tryd.underlying50⟩
instance Tryd.tund51 : Und Tryd.prog 51 (.struct (fOf Tryd.underlying51)) := ⟨Tryd.underlying51⟩
instance Tryd.tund52 : Und Tryd.prog 52 (.struct (fOf Tryd.underlying52)) := ⟨Tryd.underlying52⟩
instance Tryd.tund53 : Und Tryd.prog 53 (.array 12 9) := ⟨Tryd.underlying53⟩
instance Tryd.tund60 : Und Tryd.prog 60 (.struct (fOf Tryd.underlying60)) := ⟨Tryd.underlying60⟩
instance Tryd.tund61 : Und Tryd.prog 61 (.struct (fOf Tryd.underlying61)) := ⟨Tryd.underlying61⟩
instance Tryd.tund63 : Und Tryd.prog 63 (.slice 80) := ⟨Tryd.underlying63⟩
instance Tryd.tund64 : Und Tryd.prog 64 (.struct (fOf Tryd.underlying64)) := ⟨Tryd.underlying64⟩
instance Tryd.tund65 : Und Tryd.prog 65 (.struct (fOf Tryd.underlying65)) := ⟨Tryd.underlying65⟩
instance Tryd.tund67 : Und Tryd.prog 67 (.pointer 69) := ⟨Tryd.underlying67⟩
instance Tryd.tund68 : Und Tryd.prog 68 (.struct (fOf Tryd.underlying68)) := ⟨Tryd.underlying68⟩
instance Tryd.tund69 : Und Tryd.prog 69 (.struct (fOf Tryd.underlying69)) := ⟨Tryd.underlying69⟩
instance Tryd.tund71 : Und Tryd.prog 71 (.pointer 73) := ⟨Tryd.underlying71⟩
instance Tryd.tund72 : Und Tryd.prog 72 (.struct (fOf Tryd.underlying72)) := ⟨Tryd.underlying72⟩
instance Tryd.tund73 : Und Tryd.prog 73 (.struct (fOf Tryd.underlying73)) := ⟨Tryd.underlying73⟩
instance Tryd.tund75 : Und Tryd.prog 75 (.slice 77) := ⟨Tryd.underlying75⟩
instance Tryd.tund76 : Und Tryd.prog 76 (.struct (fOf Tryd.underlying76)) := ⟨Tryd.underlying76⟩
instance Tryd.tund77 : Und Tryd.prog 77 (.struct (fOf Tryd.underlying77)) := ⟨Tryd.underlying77⟩
instance Tryd.tund79 : Und Tryd.prog 79 (.struct (fOf Tryd.underlying79)) := ⟨Tryd.underlying79⟩
instance Tryd.tund80 : Und Tryd.prog 80 (.struct (fOf Tryd.underlying80)) := ⟨Tryd.underlying80⟩
instance Tryd.tund81 : Und Tryd.prog 81 (.pointer 52) := ⟨Tryd.underlying81⟩
instance Tryd.tund85 : Und Tryd.prog 85 (.array 24 9) := ⟨Tryd.underlying85⟩
instance Tryd.tund95 : Und Tryd.prog 95 (.pointer 80) := ⟨Tryd.underlying95⟩
instance Tryd.tund98 : Und Tryd.prog 98 (.struct (fOf Tryd.underlying98)) := ⟨Tryd.underlying98⟩
instance Tryd.tund99 : Und Tryd.prog 99 (.struct (fOf Tryd.underlying99)) := ⟨Tryd.underlying99⟩
instance Tryd.tund100 : Und Tryd.prog 100 (.array 0 16) := ⟨Tryd.underlying100⟩
instance Tryd.tund101 : Und Tryd.prog 101 (.struct (fOf Tryd.underlying101)) := ⟨Tryd.underlying101⟩
instance Tryd.tund102 : Und Tryd.prog 102 (.struct (fOf Tryd.underlying102)) := ⟨Tryd.underlying102⟩
instance Tryd.tund104 : Und Tryd.prog 104 (.int .u32) := ⟨Tryd.underlying104⟩
instance Tryd.tund105 : Und Tryd.prog 105 (.int .u8) := ⟨Tryd.underlying105⟩
instance Tryd.tund106 : Und Tryd.prog 106 (.int .u8) := ⟨Tryd.underlying106⟩
instance Tryd.tund108 : Und Tryd.prog 108 (.pointer 5) := ⟨Tryd.underlying108⟩
instance Tryd.tund109 : Und Tryd.prog 109 (.int .i32) := ⟨Tryd.underlying109⟩
instance Tryd.tund110 : Und Tryd.prog 110 (.int .i32) := ⟨Tryd.underlying110⟩
instance Tryd.tund111 : Und Tryd.prog 111 (.struct (fOf Tryd.underlying111)) := ⟨Tryd.underlying111⟩
instance Tryd.tund112 : Und Tryd.prog 112 (.struct (fOf Tryd.underlying112)) := ⟨Tryd.underlying112⟩
instance Tryd.tfld7_0 : Fld Tryd.prog 7 0 0 2 := ⟨_, _, Tryd.underlying7, rfl, rfl, rfl⟩
instance Tryd.tfld7_1 : Fld Tryd.prog 7 1 1 3 := ⟨_, _, Tryd.underlying7, rfl, rfl, rfl⟩
instance Tryd.tfld7_2 : Fld Tryd.prog 7 2 2 4 := ⟨_, _, Tryd.underlying7, rfl, rfl, rfl⟩
instance Tryd.tfld7_3 : Fld Tryd.prog 7 3 3 6 := ⟨_, _, Tryd.underlying7, rfl, rfl, rfl⟩
instance Tryd.tpl7 : Places Tryd.prog  (fOf Tryd.underlying7) [(0, 1), (1, 1), (2, 1), (3, 1)] := ⟨by kernel_rfl⟩
instance Tryd.tfld8_0 : Fld Tryd.prog 8 0 0 2 := ⟨_, _, Tryd.underlying8, rfl, rfl, rfl⟩
instance Tryd.tfld8_1 : Fld Tryd.prog 8 1 1 3 := ⟨_, _, Tryd.underlying8, rfl, rfl, rfl⟩
instance Tryd.tfld8_2 : Fld Tryd.prog 8 2 2 4 := ⟨_, _, Tryd.underlying8, rfl, rfl, rfl⟩
instance Tryd.tfld8_3 : Fld Tryd.prog 8 3 3 6 := ⟨_, _, Tryd.underlying8, rfl, rfl, rfl⟩
instance Tryd.tpl8 : Places Tryd.prog  (fOf Tryd.underlying8) [(0, 1), (1, 1), (2, 1), (3, 1)] := ⟨by kernel_rfl⟩
instance Tryd.tfld13_0 : Fld Tryd.prog 13 0 0 9 := ⟨_, _, Tryd.underlying13, rfl, rfl, rfl⟩
instance Tryd.tfld13_1 : Fld Tryd.prog 13 1 1 12 := ⟨_, _, Tryd.underlying13, rfl, rfl, rfl⟩
instance Tryd.tpl13 : Places Tryd.prog  (fOf Tryd.underlying13) [(0, 1), (1, 1)] := ⟨by kernel_rfl⟩
instance Tryd.tfld14_0 : Fld Tryd.prog 14 0 0 9 := ⟨_, _, Tryd.underlying14, rfl, rfl, rfl⟩
instance Tryd.tfld14_1 : Fld Tryd.prog 14 1 1 12 := ⟨_, _, Tryd.underlying14, rfl, rfl, rfl⟩
instance Tryd.tpl14 : Places Tryd.prog  (fOf Tryd.underlying14) [(0, 1), (1, 1)] := ⟨by kernel_rfl⟩
instance Tryd.tfld18_0 : Fld Tryd.prog 18 0 0 17 := ⟨_, _, Tryd.underlying18, rfl, rfl, rfl⟩
instance Tryd.tpl18 : Places Tryd.prog  (fOf Tryd.underlying18) [(0, 1)] := ⟨by kernel_rfl⟩
instance Tryd.tfld19_0 : Fld Tryd.prog 19 0 0 17 := ⟨_, _, Tryd.underlying19, rfl, rfl, rfl⟩
instance Tryd.tpl19 : Places Tryd.prog  (fOf Tryd.underlying19) [(0, 1)] := ⟨by kernel_rfl⟩
instance Tryd.tfld35_0 : Fld Tryd.prog 35 0 0 3 := ⟨_, _, Tryd.underlying35, rfl, rfl, rfl⟩
instance Tryd.tfld35_1 : Fld Tryd.prog 35 1 1 3 := ⟨_, _, Tryd.underlying35, rfl, rfl, rfl⟩
instance Tryd.tfld35_2 : Fld Tryd.prog 35 2 2 9 := ⟨_, _, Tryd.underlying35, rfl, rfl, rfl⟩
instance Tryd.tfld35_3 : Fld Tryd.prog 35 3 3 3 := ⟨_, _, Tryd.underlying35, rfl, rfl, rfl⟩
instance Tryd.tpl35 : Places Tryd.prog  (fOf Tryd.underlying35) [(0, 1), (1, 1), (2, 1), (3, 1)] := ⟨by kernel_rfl⟩
instance Tryd.tfld36_0 : Fld Tryd.prog 36 0 0 3 := ⟨_, _, Tryd.underlying36, rfl, rfl, rfl⟩
instance Tryd.tfld36_1 : Fld Tryd.prog 36 1 1 3 := ⟨_, _, Tryd.underlying36, rfl, rfl, rfl⟩
instance Tryd.tfld36_2 : Fld Tryd.prog 36 2 2 9 := ⟨_, _, Tryd.underlying36, rfl, rfl, rfl⟩
instance Tryd.tfld36_3 : Fld Tryd.prog 36 3 3 3 := ⟨_, _, Tryd.underlying36, rfl, rfl, rfl⟩
instance Tryd.tpl36 : Places Tryd.prog  (fOf Tryd.underlying36) [(0, 1), (1, 1), (2, 1), (3, 1)] := ⟨by kernel_rfl⟩
instance Tryd.tfld47_0 : Fld Tryd.prog 47 0 0 45 := ⟨_, _, Tryd.underlying47, rfl, rfl, rfl⟩
instance Tryd.tfld47_1 : Fld Tryd.prog 47 1 1 46 := ⟨_, _, Tryd.underlying47, rfl, rfl, rfl⟩
instance Tryd.tpl47 : Places Tryd.prog  (fOf Tryd.underlying47) [(0, 1), (1, 1)] := ⟨by kernel_rfl⟩
instance Tryd.tfld48_0 : Fld Tryd.prog 48 0 0 45 := ⟨_, _, Tryd.underlying48, rfl, rfl, rfl⟩
instance Tryd.tfld48_1 : Fld Tryd.prog 48 1 1 46 := ⟨_, _, Tryd.underlying48, rfl, rfl, rfl⟩
instance Tryd.tpl48 : Places Tryd.prog  (fOf Tryd.underlying48) [(0, 1), (1, 1)] := ⟨by kernel_rfl⟩
instance Tryd.tfld51_0 : Fld Tryd.prog 51 0 0 9 := ⟨_, _, Tryd.underlying51, rfl, rfl, rfl⟩
instance Tryd.tfld51_1 : Fld Tryd.prog 51 1 1 3 := ⟨_, _, Tryd.underlying51, rfl, rfl, rfl⟩
instance Tryd.tfld51_2 : Fld Tryd.prog 51 2 2 3 := ⟨_, _, Tryd.underlying51, rfl, rfl, rfl⟩
instance Tryd.tfld51_3 : Fld Tryd.prog 51 3 3 50 := ⟨_, _, Tryd.underlying51, rfl, rfl, rfl⟩
instance Tryd.tpl51 : Places Tryd.prog  (fOf Tryd.underlying51) [(0, 1), (1, 1), (2, 1), (3, 1)] := ⟨by kernel_rfl⟩
instance Tryd.tfld52_0 : Fld Tryd.prog 52 0 0 9 := ⟨_, _, Tryd.underlying52, rfl, rfl, rfl⟩
instance Tryd.tfld52_1 : Fld Tryd.prog 52 1 1 3 := ⟨_, _, Tryd.underlying52, rfl, rfl, rfl⟩
instance Tryd.tfld52_2 : Fld Tryd.prog 52 2 2 3 := ⟨_, _, Tryd.underlying52, rfl, rfl, rfl⟩
instance Tryd.tfld52_3 : Fld Tryd.prog 52 3 3 50 := ⟨_, _, Tryd.underlying52, rfl, rfl, rfl⟩
instance Tryd.tpl52 : Places Tryd.prog  (fOf Tryd.underlying52) [(0, 1), (1, 1), (2, 1), (3, 1)] := ⟨by kernel_rfl⟩
instance Tryd.tfld60_0 : Fld Tryd.prog 60 0 0 9 := ⟨_, _, Tryd.underlying60, rfl, rfl, rfl⟩
instance Tryd.tfld60_1 : Fld Tryd.prog 60 1 1 37 := ⟨_, _, Tryd.underlying60, rfl, rfl, rfl⟩
instance Tryd.tpl60 : Places Tryd.prog  (fOf Tryd.underlying60) [(0, 1), (1, 1)] := ⟨by kernel_rfl⟩
instance Tryd.tfld61_0 : Fld Tryd.prog 61 0 0 9 := ⟨_, _, Tryd.underlying61, rfl, rfl, rfl⟩
instance Tryd.tfld61_1 : Fld Tryd.prog 61 1 1 37 := ⟨_, _, Tryd.underlying61, rfl, rfl, rfl⟩
instance Tryd.tpl61 : Places Tryd.prog  (fOf Tryd.underlying61) [(0, 1), (1, 1)] := ⟨by kernel_rfl⟩
instance Tryd.tfld64_0 : Fld Tryd.prog 64 0 0 9 := ⟨_, _, Tryd.underlying64, rfl, rfl, rfl⟩
instance Tryd.tfld64_1 : Fld Tryd.prog 64 1 1 3 := ⟨_, _, Tryd.underlying64, rfl, rfl, rfl⟩
instance Tryd.tfld64_2 : Fld Tryd.prog 64 2 2 37 := ⟨_, _, Tryd.underlying64, rfl, rfl, rfl⟩
instance Tryd.tfld64_3 : Fld Tryd.prog 64 3 3 63 := ⟨_, _, Tryd.underlying64, rfl, rfl, rfl⟩
instance Tryd.tpl64 : Places Tryd.prog  (fOf Tryd.underlying64) [(0, 1), (1, 1), (2, 1), (3, 1)] := ⟨by kernel_rfl⟩
instance Tryd.tfld65_0 : Fld Tryd.prog 65 0 0 9 := ⟨_, _, Tryd.underlying65, rfl, rfl, rfl⟩
instance Tryd.tfld65_1 : Fld Tryd.prog 65 1 1 3 := ⟨_, _, Tryd.underlying65, rfl, rfl, rfl⟩
instance Tryd.tfld65_2 : Fld Tryd.prog 65 2 2 37 := ⟨_, _, Tryd.underlying65, rfl, rfl, rfl⟩
instance Tryd.tfld65_3 : Fld Tryd.prog 65 3 3 63 := ⟨_, _, Tryd.underlying65, rfl, rfl, rfl⟩
instance Tryd.tpl65 : Places Tryd.prog  (fOf Tryd.underlying65) [(0, 1), (1, 1), (2, 1), (3, 1)] := ⟨by kernel_rfl⟩
instance Tryd.tfld68_0 : Fld Tryd.prog 68 0 0 22 := ⟨_, _, Tryd.underlying68, rfl, rfl, rfl⟩
instance Tryd.tfld68_1 : Fld Tryd.prog 68 1 1 3 := ⟨_, _, Tryd.underlying68, rfl, rfl, rfl⟩
instance Tryd.tpl68 : Places Tryd.prog  (fOf Tryd.underlying68) [(0, 1), (1, 1)] := ⟨by kernel_rfl⟩
instance Tryd.tfld69_0 : Fld Tryd.prog 69 0 0 22 := ⟨_, _, Tryd.underlying69, rfl, rfl, rfl⟩
instance Tryd.tfld69_1 : Fld Tryd.prog 69 1 1 3 := ⟨_, _, Tryd.underlying69, rfl, rfl, rfl⟩
instance Tryd.tpl69 : Places Tryd.prog  (fOf Tryd.underlying69) [(0, 1), (1, 1)] := ⟨by kernel_rfl⟩
instance Tryd.tfld72_0 : Fld Tryd.prog 72 0 0 67 := ⟨_, _, Tryd.underlying72, rfl, rfl, rfl⟩
instance Tryd.tfld72_1 : Fld Tryd.prog 72 1 1 3 := ⟨_, _, Tryd.underlying72, rfl, rfl, rfl⟩
instance Tryd.tfld72_2 : Fld Tryd.prog 72 2 2 3 := ⟨_, _, Tryd.underlying72, rfl, rfl, rfl⟩
instance Tryd.tfld72_3 : Fld Tryd.prog 72 3 3 22 := ⟨_, _, Tryd.underlying72, rfl, rfl, rfl⟩
instance Tryd.tfld72_4 : Fld Tryd.prog 72 4 4 37 := ⟨_, _, Tryd.underlying72, rfl, rfl, rfl⟩
instance Tryd.tfld72_5 : Fld Tryd.prog 72 5 5 37 := ⟨_, _, Tryd.underlying72, rfl, rfl, rfl⟩
instance Tryd.tfld72_6 : Fld Tryd.prog 72 6 6 37 := ⟨_, _, Tryd.underlying72, rfl, rfl, rfl⟩
instance Tryd.tfld72_7 : Fld Tryd.prog 72 7 7 3 := ⟨_, _, Tryd.underlying72, rfl, rfl, rfl⟩
instance Tryd.tfld72_8 : Fld Tryd.prog 72 8 8 3 := ⟨_, _, Tryd.underlying72, rfl, rfl, rfl⟩
instance Tryd.tpl72 : Places Tryd.prog  (fOf Tryd.underlying72) [(0, 1), (1, 1), (2, 1), (3, 1), (4, 1), (5, 1), (6, 1), (7, 1), (8, 1)] := ⟨by kernel_rfl⟩
instance Tryd.tfld73_0 : Fld Tryd.prog 73 0 0 67 := ⟨_, _, Tryd.underlying73, rfl, rfl, rfl⟩
instance Tryd.tfld73_1 : Fld Tryd.prog 73 1 1 3 := ⟨_, _, Tryd.underlying73, rfl, rfl, rfl⟩
instance Tryd.tfld73_2 : Fld Tryd.prog 73 2 2 3 := ⟨_, _, Tryd.underlying73, rfl, rfl, rfl⟩
instance Tryd.tfld73_3 : Fld Tryd.prog 73 3 3 22 := ⟨_, _, Tryd.underlying73, rfl, rfl, rfl⟩
instance Tryd.tfld73_4 : Fld Tryd.prog 73 4 4 37 := ⟨_, _, Tryd.underlying73, rfl, rfl, rfl⟩
instance Tryd.tfld73_5 : Fld Tryd.prog 73 5 5 37 := ⟨_, _, Tryd.underlying73, rfl, rfl, rfl⟩
instance Tryd.tfld73_6 : Fld Tryd.prog 73 6 6 37 := ⟨_, _, Tryd.underlying73, rfl, rfl, rfl⟩
instance Tryd.tfld73_7 : Fld Tryd.prog 73 7 7 3 := ⟨_, _, Tryd.underlying73, rfl, rfl, rfl⟩
instance Tryd.tfld73_8 : Fld Tryd.prog 73 8 8 3 := ⟨_, _, Tryd.underlying73, rfl, rfl, rfl⟩
instance Tryd.tpl73 : Places Tryd.prog  (fOf Tryd.underlying73) [(0, 1), (1, 1), (2, 1), (3, 1), (4, 1), (5, 1), (6, 1), (7, 1), (8, 1)] := ⟨by kernel_rfl⟩
instance Tryd.tfld76_0 : Fld Tryd.prog 76 0 0 3 := ⟨_, _, Tryd.underlying76, rfl, rfl, rfl⟩
instance Tryd.tfld76_1 : Fld Tryd.prog 76 1 1 3 := ⟨_, _, Tryd.underlying76, rfl, rfl, rfl⟩
instance Tryd.tfld76_2 : Fld Tryd.prog 76 2 2 3 := ⟨_, _, Tryd.underlying76, rfl, rfl, rfl⟩
instance Tryd.tfld76_3 : Fld Tryd.prog 76 3 3 9 := ⟨_, _, Tryd.underlying76, rfl, rfl, rfl⟩
instance Tryd.tfld76_4 : Fld Tryd.prog 76 4 4 9 := ⟨_, _, Tryd.underlying76, rfl, rfl, rfl⟩
instance Tryd.tfld76_5 : Fld Tryd.prog 76 5 5 75 := ⟨_, _, Tryd.underlying76, rfl, rfl, rfl⟩
instance Tryd.tpl76 : Places Tryd.prog  (fOf Tryd.underlying76) [(0, 1), (1, 1), (2, 1), (3, 1), (4, 1), (5, 1)] := ⟨by kernel_rfl⟩
instance Tryd.tfld77_0 : Fld Tryd.prog 77 0 0 3 := ⟨_, _, Tryd.underlying77, rfl, rfl, rfl⟩
instance Tryd.tfld77_1 : Fld Tryd.prog 77 1 1 3 := ⟨_, _, Tryd.underlying77, rfl, rfl, rfl⟩
instance Tryd.tfld77_2 : Fld Tryd.prog 77 2 2 3 := ⟨_, _, Tryd.underlying77, rfl, rfl, rfl⟩
instance Tryd.tfld77_3 : Fld Tryd.prog 77 3 3 9 := ⟨_, _, Tryd.underlying77, rfl, rfl, rfl⟩
instance Tryd.tfld77_4 : Fld Tryd.prog 77 4 4 9 := ⟨_, _, Tryd.underlying77, rfl, rfl, rfl⟩
instance Tryd.tfld77_5 : Fld Tryd.prog 77 5 5 75 := ⟨_, _, Tryd.underlying77, rfl, rfl, rfl⟩
instance Tryd.tpl77 : Places Tryd.prog  (fOf Tryd.underlying77) [(0, 1), (1, 1), (2, 1), (3, 1), (4, 1), (5, 1)] := ⟨by kernel_rfl⟩
instance Tryd.tfld79_0 : Fld Tryd.prog 79 0 0 3 := ⟨_, _, Tryd.underlying79, rfl, rfl, rfl⟩
instance Tryd.tfld79_1 : Fld Tryd.prog 79 1 1 3 := ⟨_, _, Tryd.underlying79, rfl, rfl, rfl⟩
instance Tryd.tfld79_2 : Fld Tryd.prog 79 2 2 3 := ⟨_, _, Tryd.underlying79, rfl, rfl, rfl⟩
instance Tryd.tfld79_3 : Fld Tryd.prog 79 3 3 9 := ⟨_, _, Tryd.underlying79, rfl, rfl, rfl⟩
instance Tryd.tfld79_4 : Fld Tryd.prog 79 4 4 9 := ⟨_, _, Tryd.underlying79, rfl, rfl, rfl⟩
instance Tryd.tfld79_5 : Fld Tryd.prog 79 5 5 3 := ⟨_, _, Tryd.underlying79, rfl, rfl, rfl⟩
instance Tryd.tfld79_6 : Fld Tryd.prog 79 6 6 3 := ⟨_, _, Tryd.underlying79, rfl, rfl, rfl⟩
instance Tryd.tfld79_7 : Fld Tryd.prog 79 7 7 75 := ⟨_, _, Tryd.underlying79, rfl, rfl, rfl⟩
instance Tryd.tfld79_8 : Fld Tryd.prog 79 8 8 9 := ⟨_, _, Tryd.underlying79, rfl, rfl, rfl⟩
instance Tryd.tfld79_9 : Fld Tryd.prog 79 9 9 3 := ⟨_, _, Tryd.underlying79, rfl, rfl, rfl⟩
instance Tryd.tfld79_10 : Fld Tryd.prog 79 10 10 75 := ⟨_, _, Tryd.underlying79, rfl, rfl, rfl⟩
instance Tryd.tfld79_11 : Fld Tryd.prog 79 11 11 63 := ⟨_, _, Tryd.underlying79, rfl, rfl, rfl⟩
instance Tryd.tfld79_12 : Fld Tryd.prog 79 12 12 63 := ⟨_, _, Tryd.underlying79, rfl, rfl, rfl⟩
instance Tryd.tpl79 : Places Tryd.prog  (fOf Tryd.underlying79) [(0, 1), (1, 1), (2, 1), (3, 1), (4, 1), (5, 1), (6, 1), (7, 1), (8, 1), (9, 1), (10, 1), (11, 1), (12, 1)] := ⟨by kernel_rfl⟩
instance Tryd.tfld80_0 : Fld Tryd.prog 80 0 0 3 := ⟨_, _, Tryd.underlying80, rfl, rfl, rfl⟩
instance Tryd.tfld80_1 : Fld Tryd.prog 80 1 1 3 := ⟨_, _, Tryd.underlying80, rfl, rfl, rfl⟩
instance Tryd.tfld80_2 : Fld Tryd.prog 80 2 2 3 := ⟨_, _, Tryd.underlying80, rfl, rfl, rfl⟩
instance Tryd.tfld80_3 : Fld Tryd.prog 80 3 3 9 := ⟨_, _, Tryd.underlying80, rfl, rfl, rfl⟩
instance Tryd.tfld80_4 : Fld Tryd.prog 80 4 4 9 := ⟨_, _, Tryd.underlying80, rfl, rfl, rfl⟩
instance Tryd.tfld80_5 : Fld Tryd.prog 80 5 5 3 := ⟨_, _, Tryd.underlying80, rfl, rfl, rfl⟩
instance Tryd.tfld80_6 : Fld Tryd.prog 80 6 6 3 := ⟨_, _, Tryd.underlying80, rfl, rfl, rfl⟩
instance Tryd.tfld80_7 : Fld Tryd.prog 80 7 7 75 := ⟨_, _, Tryd.underlying80, rfl, rfl, rfl⟩
instance Tryd.tfld80_8 : Fld Tryd.prog 80 8 8 9 := ⟨_, _, Tryd.underlying80, rfl, rfl, rfl⟩
instance Tryd.tfld80_9 : Fld Tryd.prog 80 9 9 3 := ⟨_, _, Tryd.underlying80, rfl, rfl, rfl⟩
instance Tryd.tfld80_10 : Fld Tryd.prog 80 10 10 75 := ⟨_, _, Tryd.underlying80, rfl, rfl, rfl⟩
instance Tryd.tfld80_11 : Fld Tryd.prog 80 11 11 63 := ⟨_, _, Tryd.underlying80, rfl, rfl, rfl⟩
instance Tryd.tfld80_12 : Fld Tryd.prog 80 12 12 63 := ⟨_, _, Tryd.underlying80, rfl, rfl, rfl⟩
instance Tryd.tpl80 : Places Tryd.prog  (fOf Tryd.underlying80) [(0, 1), (1, 1), (2, 1), (3, 1), (4, 1), (5, 1), (6, 1), (7, 1), (8, 1), (9, 1), (10, 1), (11, 1), (12, 1)] := ⟨by kernel_rfl⟩
instance Tryd.tfld98_0 : Fld Tryd.prog 98 0 0 17 := ⟨_, _, Tryd.underlying98, rfl, rfl, rfl⟩
instance Tryd.tfld98_1 : Fld Tryd.prog 98 1 1 17 := ⟨_, _, Tryd.underlying98, rfl, rfl, rfl⟩
instance Tryd.tfld98_2 : Fld Tryd.prog 98 2 2 17 := ⟨_, _, Tryd.underlying98, rfl, rfl, rfl⟩
instance Tryd.tfld98_3 : Fld Tryd.prog 98 3 3 9 := ⟨_, _, Tryd.underlying98, rfl, rfl, rfl⟩
instance Tryd.tpl98 : Places Tryd.prog  (fOf Tryd.underlying98) [(0, 1), (1, 1), (2, 1), (3, 1)] := ⟨by kernel_rfl⟩
instance Tryd.tfld99_0 : Fld Tryd.prog 99 0 0 17 := ⟨_, _, Tryd.underlying99, rfl, rfl, rfl⟩
instance Tryd.tfld99_1 : Fld Tryd.prog 99 1 1 17 := ⟨_, _, Tryd.underlying99, rfl, rfl, rfl⟩
instance Tryd.tfld99_2 : Fld Tryd.prog 99 2 2 17 := ⟨_, _, Tryd.underlying99, rfl, rfl, rfl⟩
instance Tryd.tfld99_3 : Fld Tryd.prog 99 3 3 9 := ⟨_, _, Tryd.underlying99, rfl, rfl, rfl⟩
instance Tryd.tpl99 : Places Tryd.prog  (fOf Tryd.underlying99) [(0, 1), (1, 1), (2, 1), (3, 1)] := ⟨by kernel_rfl⟩
instance Tryd.tfld101_0 : Fld Tryd.prog 101 0 0 100 := ⟨_, _, Tryd.underlying101, rfl, rfl, rfl⟩
instance Tryd.tpl101 : Places Tryd.prog  (fOf Tryd.underlying101) [(0, 0)] := ⟨by kernel_rfl⟩
instance Tryd.tfld102_0 : Fld Tryd.prog 102 0 0 100 := ⟨_, _, Tryd.underlying102, rfl, rfl, rfl⟩
instance Tryd.tpl102 : Places Tryd.prog  (fOf Tryd.underlying102) [(0, 0)] := ⟨by kernel_rfl⟩
instance Tryd.tfld111_0 : Fld Tryd.prog 111 0 0 12 := ⟨_, _, Tryd.underlying111, rfl, rfl, rfl⟩
instance Tryd.tfld111_1 : Fld Tryd.prog 111 1 1 12 := ⟨_, _, Tryd.underlying111, rfl, rfl, rfl⟩
instance Tryd.tfld111_2 : Fld Tryd.prog 111 2 2 104 := ⟨_, _, Tryd.underlying111, rfl, rfl, rfl⟩
instance Tryd.tfld111_3 : Fld Tryd.prog 111 3 3 105 := ⟨_, _, Tryd.underlying111, rfl, rfl, rfl⟩
instance Tryd.tfld111_4 : Fld Tryd.prog 111 4 4 5 := ⟨_, _, Tryd.underlying111, rfl, rfl, rfl⟩
instance Tryd.tfld111_5 : Fld Tryd.prog 111 5 5 5 := ⟨_, _, Tryd.underlying111, rfl, rfl, rfl⟩
instance Tryd.tfld111_6 : Fld Tryd.prog 111 6 6 106 := ⟨_, _, Tryd.underlying111, rfl, rfl, rfl⟩
instance Tryd.tfld111_7 : Fld Tryd.prog 111 7 7 107 := ⟨_, _, Tryd.underlying111, rfl, rfl, rfl⟩
instance Tryd.tfld111_8 : Fld Tryd.prog 111 8 8 108 := ⟨_, _, Tryd.underlying111, rfl, rfl, rfl⟩
instance Tryd.tfld111_9 : Fld Tryd.prog 111 9 9 109 := ⟨_, _, Tryd.underlying111, rfl, rfl, rfl⟩
instance Tryd.tfld111_10 : Fld Tryd.prog 111 10 10 110 := ⟨_, _, Tryd.underlying111, rfl, rfl, rfl⟩
instance Tryd.tpl111 : Places Tryd.prog  (fOf Tryd.underlying111) [(0, 1), (1, 1), (2, 1), (3, 1), (4, 1), (5, 1), (6, 1), (7, 1), (8, 1), (9, 1), (10, 1)] := ⟨by kernel_rfl⟩
instance Tryd.tfld112_0 : Fld Tryd.prog 112 0 0 12 := ⟨_, _, Tryd.underlying112, rfl, rfl, rfl⟩
instance Tryd.tfld112_1 : Fld Tryd.prog 112 1 1 12 := ⟨_, _, Tryd.underlying112, rfl, rfl, rfl⟩
instance Tryd.tfld112_2 : Fld Tryd.prog 112 2 2 104 := ⟨_, _, Tryd.underlying112, rfl, rfl, rfl⟩
instance Tryd.tfld112_3 : Fld Tryd.prog 112 3 3 105 := ⟨_, _, Tryd.underlying112, rfl, rfl, rfl⟩
instance Tryd.tfld112_4 : Fld Tryd.prog 112 4 4 5 := ⟨_, _, Tryd.underlying112, rfl, rfl, rfl⟩
instance Tryd.tfld112_5 : Fld Tryd.prog 112 5 5 5 := ⟨_, _, Tryd.underlying112, rfl, rfl, rfl⟩
instance Tryd.tfld112_6 : Fld Tryd.prog 112 6 6 106 := ⟨_, _, Tryd.underlying112, rfl, rfl, rfl⟩
instance Tryd.tfld112_7 : Fld Tryd.prog 112 7 7 107 := ⟨_, _, Tryd.underlying112, rfl, rfl, rfl⟩
instance Tryd.tfld112_8 : Fld Tryd.prog 112 8 8 108 := ⟨_, _, Tryd.underlying112, rfl, rfl, rfl⟩
instance Tryd.tfld112_9 : Fld Tryd.prog 112 9 9 109 := ⟨_, _, Tryd.underlying112, rfl, rfl, rfl⟩
instance Tryd.tfld112_10 : Fld Tryd.prog 112 10 10 110 := ⟨_, _, Tryd.underlying112, rfl, rfl, rfl⟩
instance Tryd.tpl112 : Places Tryd.prog  (fOf Tryd.underlying112) [(0, 1), (1, 1), (2, 1), (3, 1), (4, 1), (5, 1), (6, 1), (7, 1), (8, 1), (9, 1), (10, 1)] := ⟨by kernel_rfl⟩
instance Tryd.gofun3 : GoFun Tryd.prog 3 := ⟨_, Tryd.func3, by kernel_rfl, by kernel_rfl⟩
instance Tryd.gofun4 : GoFun Tryd.prog 4 := ⟨_, Tryd.func4, by kernel_rfl, by kernel_rfl⟩
instance Tryd.gofun5 : GoFun Tryd.prog 5 := ⟨_, Tryd.func5, by kernel_rfl, by kernel_rfl⟩
instance Tryd.gofun6 : GoFun Tryd.prog 6 := ⟨_, Tryd.func6, by kernel_rfl, by kernel_rfl⟩
instance Tryd.gofun7 : GoFun Tryd.prog 7 := ⟨_, Tryd.func7, by kernel_rfl, by kernel_rfl⟩
instance Tryd.gofun8 : GoFun Tryd.prog 8 := ⟨_, Tryd.func8, by kernel_rfl, by kernel_rfl⟩
instance Tryd.gofun9 : GoFun Tryd.prog 9 := ⟨_, Tryd.func9, by kernel_rfl, by kernel_rfl⟩
instance Tryd.gofun10 : GoFun Tryd.prog 10 := ⟨_, Tryd.func10, by kernel_rfl, by kernel_rfl⟩
instance Tryd.gofun11 : GoFun Tryd.prog 11 := ⟨_, Tryd.func11, by kernel_rfl, by kernel_rfl⟩
instance Tryd.gofun12 : GoFun Tryd.prog 12 := ⟨_, Tryd.func12, by kernel_rfl, by kernel_rfl⟩
instance Tryd.gofun13 : GoFun Tryd.prog 13 := ⟨_, Tryd.func13, by kernel_rfl, by kernel_rfl⟩
instance Tryd.gofun14 : GoFun Tryd.prog 14 := ⟨_, Tryd.func14, by kernel_rfl, by kernel_rfl⟩
instance Tryd.gofun15 : GoFun Tryd.prog 15 := ⟨_, Tryd.func15, by kernel_rfl, by kernel_rfl⟩
instance Tryd.gofun16 : GoFun Tryd.prog 16 := ⟨_, Tryd.func16, by kernel_rfl, by kernel_rfl⟩
instance Tryd.gofun17 : GoFun Tryd.prog 17 := ⟨_, Tryd.func17, by kernel_rfl, by kernel_rfl⟩
instance Tryd.gofun18 : GoFun Tryd.prog 18 := ⟨_, Tryd.func18, by kernel_rfl, by kernel_rfl⟩
instance Tryd.gofun19 : GoFun Tryd.prog 19 := ⟨_, Tryd.func19, by kernel_rfl, by kernel_rfl⟩
instance Tryd.gofun20 : GoFun Tryd.prog 20 := ⟨_, Tryd.func20, by kernel_rfl, by kernel_rfl⟩
instance Tryd.gofun21 : GoFun Tryd.prog 21 := ⟨_, Tryd.func21, by kernel_rfl, by kernel_rfl⟩
instance Tryd.gofun22 : GoFun Tryd.prog 22 := ⟨_, Tryd.func22, by kernel_rfl, by kernel_rfl⟩
instance Tryd.gofun23 : GoFun Tryd.prog 23 := ⟨_, Tryd.func23, by kernel_rfl, by kernel_rfl⟩
instance Tryd.gofun24 : GoFun Tryd.prog 24 := ⟨_, Tryd.func24, by kernel_rfl, by kernel_rfl⟩
instance Tryd.gofun25 : GoFun Tryd.prog 25 := ⟨_, Tryd.func25, by kernel_rfl, by kernel_rfl⟩
instance Tryd.gofun26 : GoFun Tryd.prog 26 := ⟨_, Tryd.func26, by kernel_rfl, by kernel_rfl⟩
instance Tryd.gofun27 : GoFun Tryd.prog 27 := ⟨_, Tryd.func27, by kernel_rfl, by kernel_rfl⟩
instance Tryd.gofun28 : GoFun Tryd.prog 28 := ⟨_, Tryd.func28, by kernel_rfl, by kernel_rfl⟩
instance Tryd.gofun29 : GoFun Tryd.prog 29 := ⟨_, Tryd.func29, by kernel_rfl, by kernel_rfl⟩
instance Tryd.gofun30 : GoFun Tryd.prog 30 := ⟨_, Tryd.func30, by kernel_rfl, by kernel_rfl⟩
instance Tryd.gofun31 : GoFun Tryd.prog 31 := ⟨_, Tryd.func31, by kernel_rfl, by kernel_rfl⟩
instance Tryd.gofun32 : GoFun Tryd.prog 32 := ⟨_, Tryd.func32, by kernel_rfl, by kernel_rfl⟩
instance Tryd.gofun33 : GoFun Tryd.prog 33 := ⟨_, Tryd.func33, by kernel_rfl, by kernel_rfl⟩
instance Tryd.gofun34 : GoFun Tryd.prog 34 := ⟨_, Tryd.func34, by kernel_rfl, by kernel_rfl⟩
instance Tryd.gofun35 : GoFun Tryd.prog 35 := ⟨_, Tryd.func35, by kernel_rfl, by kernel_rfl⟩
instance Tryd.gofun36 : GoFun Tryd.prog 36 := ⟨_, Tryd.func36, by kernel_rfl, by kernel_rfl⟩
instance Tryd.gofun37 : GoFun Tryd.prog 37 := ⟨_, Tryd.func37, by kernel_rfl, by kernel_rfl⟩
instance Tryd.gofun38 : GoFun Tryd.prog 38 := ⟨_, Tryd.func38, by kernel_rfl, by kernel_rfl⟩
instance Tryd.gofun39 : GoFun Tryd.prog 39 := ⟨_, Tryd.func39, by kernel_rfl, by kernel_rfl⟩
instance Tryd.gofun40 : GoFun Tryd.prog 40 := ⟨_, Tryd.func40, by kernel_rfl, by kernel_rfl⟩
instance Tryd.gofun41 : GoFun Tryd.prog 41 := ⟨_, Tryd.func41, by kernel_rfl, by kernel_rfl⟩
instance Tryd.gofun42 : GoFun Tryd.prog 42 := ⟨_, Tryd.func42, by kernel_rfl, by kernel_rfl⟩
instance Tryd.gofun43 : GoFun Tryd.prog 43 := ⟨_, Tryd.func43, by kernel_rfl, by kernel_rfl⟩
instance Tryd.gofun44 : GoFun Tryd.prog 44 := ⟨_, Tryd.func44, by kernel_rfl, by kernel_rfl⟩
instance Tryd.gofun45 : GoFun Tryd.prog 45 := ⟨_, Tryd.func45, by kernel_rfl, by kernel_rfl⟩
instance Tryd.gofun46 : GoFun Tryd.prog 46 := ⟨_, Tryd.func46, by kernel_rfl, by kernel_rfl⟩
instance Tryd.gofun47 : GoFun Tryd.prog 47 := ⟨_, Tryd.func47, by kernel_rfl, by kernel_rfl⟩
instance Tryd.gofun48 : GoFun Tryd.prog 48 := ⟨_, Tryd.func48, by kernel_rfl, by kernel_rfl⟩
instance Tryd.gofun49 : GoFun Tryd.prog 49 := ⟨_, Tryd.func49, by kernel_rfl, by kernel_rfl⟩
instance Tryd.gofun50 : GoFun Tryd.prog 50 := ⟨_, Tryd.func50, by kernel_rfl, by kernel_rfl⟩
instance Tryd.gofun51 : GoFun Tryd.prog 51 := ⟨_, Tryd.func51, by kernel_rfl, by kernel_rfl⟩
instance Tryd.gofun52 : GoFun Tryd.prog 52 := ⟨_, Tryd.func52, by kernel_rfl, by kernel_rfl⟩
instance Tryd.gofun53 : GoFun Tryd.prog 53 := ⟨_, Tryd.func53, by kernel_rfl, by kernel_rfl⟩
instance Tryd.gofun54 : GoFun Tryd.prog 54 := ⟨_, Tryd.func54, by kernel_rfl, by kernel_rfl⟩
instance Tryd.gofun55 : GoFun Tryd.prog 55 := ⟨_, Tryd.func55, by kernel_rfl, by kernel_rfl⟩
instance Tryd.gofun56 : GoFun Tryd.prog 56 := ⟨_, Tryd.func56, by kernel_rfl, by kernel_rfl⟩
instance Tryd.gofun57 : GoFun Tryd.prog 57 := ⟨_, Tryd.func57, by kernel_rfl, by kernel_rfl⟩
end Go.Proofs
/- The walks of the lexer's small functions. No conditions: lemmas only. -/
namespace Go.Proofs
open Go.AM

def digA (r : Nat) : Bool := decide (48 ≤ r) && decide (r ≤ 57)
def letA (r : Nat) : Bool := (decide (97 ≤ r) && decide (r ≤ 122)) || (decide (65 ≤ r) && decide (r ≤ 90)) || decide (r = 95)
def npA (r : Nat) : Bool := letA r || digA r

theorem isDigit_ok (r : Nat) (st : St) : ACalls Tryd.prog 34 [.int .i32 (r : Int)] st (fun v st' => v = .bool (digA r) ∧ st' = st) (fun _ _ => False) := by
  refine ACalls.ofBody Tryd.func34 rfl Tryd.ntmps34 rfl ?_
  repeat (first | refine nl ?_ | refine AWP.seq ?_ | refine rg ?_ | refine sm rfl ?_)
  refine AOps.split 5 rfl (fun h => ?_) (fun h => ?_)
  · have h' : 48 ≤ r := by have : (48 : Int) ≤ (r : Int) := h; omega
    repeat (first | refine nl ?_ | refine sm rfl ?_)
    refine AWP.ret (rets rfl (.refl _) (.refl _) ⟨?_, rfl⟩)
    simp only [packA, digA, h', decide_true, Bool.true_and]
    congr 1
    exact decide_eq_decide.2 (by omega)
  · have h' : ¬ 48 ≤ r := by have : ¬ (48 : Int) ≤ (r : Int) := h; omega
    repeat (first | refine nl ?_ | refine sm rfl ?_ | refine uw rfl ?_)
    refine AWP.ret (rets rfl (.refl _) (.refl _) ⟨?_, rfl⟩)
    simp [packA, digA, h', absV, abs1]

theorem notNl_ok (r : Nat) (st : St) : ACalls Tryd.prog 33 [.int .i32 (r : Int)] st (fun v st' => v = .bool (decide (r ≠ 10)) ∧ st' = st) (fun _ _ => False) := by
  refine ACalls.ofBody Tryd.func33 rfl Tryd.ntmps33 rfl ?_
  repeat (first | refine nl ?_ | refine AWP.seq ?_ | refine rg ?_ | refine sm rfl ?_)
  refine AWP.ret (rets rfl (.refl _) (.refl _) ⟨?_, rfl⟩)
  simp only [packA]
  congr 1
  exact decide_eq_decide.2 (by omega)

theorem isNamePart_ok (r : Nat) (st : St) : ACalls Tryd.prog 36 [.int .i32 (r : Int)] st (fun v st' => v = .bool (npA r) ∧ st' = st) (fun _ _ => False) := by
  refine ACalls.ofBody Tryd.func36 rfl Tryd.ntmps36 rfl ?_
  have fin : ∀ {b : Bool}, b = npA r → AV.bool b = .bool (npA r) := fun h => by rw [h]
  repeat (first | refine nl ?_ | refine AWP.seq ?_ | refine rg ?_ | refine sm rfl ?_)
  refine AOps.split 5 rfl (fun h => ?_) (fun h => ?_)
  · have h' : 97 ≤ r := by have : (97 : Int) ≤ (r : Int) := h; omega
    repeat (refine sm rfl ?_)
    refine AOps.split 9 rfl (fun h2 => ?_) (fun h2 => ?_)
    · have h2' : r ≤ 122 := by have : (r : Int) ≤ 122 := h2; omega
      repeat (first | refine nl ?_ | refine sm rfl ?_ | refine uw rfl ?_)
      exact AWP.ret (rets rfl (.refl _) (.refl _) ⟨fin (by simp [npA, letA, h', h2']), rfl⟩)
    · have h2' : ¬ r ≤ 122 := by have : ¬ (r : Int) ≤ 122 := h2; omega
      repeat (refine sm rfl ?_)
      refine AOps.split 12 rfl (fun h3 => ?_) (fun h3 => absurd (show (65 : Int) ≤ (r : Int) by omega) h3)
      repeat (refine sm rfl ?_)
      refine AOps.split 17 rfl (fun h4 => absurd (show (r : Int) ≤ 90 from h4) (by omega)) (fun h4 => ?_)
      repeat (refine sm rfl ?_)
      refine AOps.split 21 rfl (fun h5 => absurd (show (r : Int) = 95 from h5) (by omega)) (fun h5 => ?_)
      repeat (refine sm rfl ?_)
      refine cle rfl rfl (isDigit_ok r st) ?_
      repeat (first | refine nl ?_ | refine sm rfl ?_)
      refine AWP.ret (rets rfl (.refl _) (.refl _) ⟨fin ?_, rfl⟩)
      simp only [npA, letA, h2', show ¬ r ≤ 90 by omega, show ¬ r = 95 by omega, decide_false, Bool.and_false, Bool.or_false, Bool.false_or]
  · have h' : ¬ 97 ≤ r := by have : ¬ (97 : Int) ≤ (r : Int) := h; omega
    repeat (first | refine sm rfl ?_ | refine uw rfl ?_)
    refine AOps.split 12 rfl (fun h3 => ?_) (fun h3 => ?_)
    · have h3' : 65 ≤ r := by have : (65 : Int) ≤ (r : Int) := h3; omega
      repeat (refine sm rfl ?_)
      refine AOps.split 17 rfl (fun h4 => ?_) (fun h4 => ?_)
      · have h4' : r ≤ 90 := by have : (r : Int) ≤ 90 := h4; omega
        repeat (first | refine nl ?_ | refine sm rfl ?_ | refine uw rfl ?_)
        exact AWP.ret (rets rfl (.refl _) (.refl _) ⟨fin (by simp [npA, letA, h3', h4']), rfl⟩)
      · have h4' : ¬ r ≤ 90 := by have : ¬ (r : Int) ≤ 90 := h4; omega
        repeat (refine sm rfl ?_)
        refine AOps.split 21 rfl (fun h5 => ?_) (fun h5 => ?_)
        · have h5' : r = 95 := by have : (r : Int) = 95 := h5; omega
          repeat (first | refine nl ?_ | refine sm rfl ?_ | refine uw rfl ?_)
          exact AWP.ret (rets rfl (.refl _) (.refl _) ⟨fin (by simp [npA, letA, h5']), rfl⟩)
        · have h5' : ¬ r = 95 := by have : ¬ (r : Int) = 95 := h5; omega
          repeat (refine sm rfl ?_)
          refine cle rfl rfl (isDigit_ok r st) ?_
          repeat (first | refine nl ?_ | refine sm rfl ?_)
          refine AWP.ret (rets rfl (.refl _) (.refl _) ⟨fin ?_, rfl⟩)
          simp only [npA, letA, h', h4', h5', decide_false, Bool.false_and, Bool.and_false, Bool.or_false, Bool.false_or]
    · have h3' : ¬ 65 ≤ r := by have : ¬ (65 : Int) ≤ (r : Int) := h3; omega
      repeat (first | refine sm rfl ?_ | refine uw rfl ?_)
      refine AOps.split 21 rfl (fun h5 => absurd (show (r : Int) = 95 from h5) (by omega)) (fun h5 => ?_)
      repeat (refine sm rfl ?_)
      refine cle rfl rfl (isDigit_ok r st) ?_
      repeat (first | refine nl ?_ | refine sm rfl ?_)
      refine AWP.ret (rets rfl (.refl _) (.refl _) ⟨fin ?_, rfl⟩)
      simp only [npA, letA, h', h3', show ¬ r = 95 by omega, decide_false, Bool.false_and, Bool.or_false, Bool.false_or]

theorem hasPrefixL_ok (s p : List UInt8) (st : St) : ACalls Tryd.prog 52 [.str s, .str p] st (fun v st' => v = .bool (decide (s.take p.length = p)) ∧ st' = st) (fun _ _ => False) := by
  refine ACalls.ofBody Tryd.func52 rfl Tryd.ntmps52 rfl ?_
  repeat (first | refine nl ?_ | refine AWP.seq ?_ | refine rg ?_ | refine sm rfl ?_ | refine lns rfl rfl ?_)
  refine AOps.split 10 rfl (fun h => ?_) (fun h => ?_)
  · have h' : p.length ≤ s.length := by have : (p.length : Int) ≤ (s.length : Int) := h; omega
    repeat (first | refine nl ?_ | refine sm rfl ?_ | refine lns rfl rfl ?_ | refine ssh rfl rfl rfl (by omega) ?_)
    exact AWP.ret (rets rfl (.refl _) (.refl _) ⟨rfl, rfl⟩)
  · have h' : ¬ p.length ≤ s.length := by have : ¬ (p.length : Int) ≤ (s.length : Int) := h; omega
    repeat (first | refine nl ?_ | refine sm rfl ?_ | refine uw rfl ?_)
    refine AWP.ret (rets rfl (.refl _) (.refl _) ⟨?_, rfl⟩)
    have : ¬ s.take p.length = p := fun e => by
      have := congrArg List.length e
      simp only [List.length_take] at this
      omega
    simp [packA, absV, abs1, this]

theorem hasPrefix_ok (s p : List UInt8) (st : St) : ACalls Tryd.prog 31 [.str s, .str p] st (fun v st' => v = .bool (decide (s.take p.length = p)) ∧ st' = st) (fun _ _ => False) := by
  refine ACalls.ofBody Tryd.func31 rfl Tryd.ntmps31 rfl ?_
  repeat (first | refine nl ?_ | refine AWP.seq ?_ | refine rg ?_ | refine sm rfl ?_)
  refine cle rfl rfl (hasPrefixL_ok s p st) ?_
  repeat (first | refine nl ?_ | refine sm rfl ?_)
  exact AWP.ret (rets rfl (.refl _) (.refl _) ⟨rfl, rfl⟩)
end Go.Proofs
/- The walk of prefix. No conditions: lemmas only. -/
namespace Go.Proofs
open Go.AM

theorem tw_len {q : UInt8 → Bool} {l : List UInt8} : ∀ {p : Nat}, (∀ j, j < p → ∃ b, l[j]? = some b ∧ q b = true) → ((∃ c, l[p]? = some c ∧ q c = false) ∨ l.length ≤ p) → p ≤ l.length → (l.takeWhile q).length = p := by
  induction l with
  | nil => intro p _ _ h; simp at h; simp [h]
  | cons a l ih =>
    intro p h1 h2 h3
    cases p with
    | zero =>
      rcases h2 with ⟨c, hc, hq⟩ | h
      · cases hc
        simp [hq]
      · simp at h
    | succ p =>
      obtain ⟨b, hb, hq⟩ := h1 0 (by omega)
      cases hb
      rw [List.takeWhile_cons, hq, if_pos rfl, List.length_cons]
      rw [ih (p := p) (fun j hj => h1 (j + 1) (by omega)) (by
        rcases h2 with ⟨c, hc, hq⟩ | h
        · exact .inl ⟨c, hc, hq⟩
        · exact .inr (by simpa using h)) (by simpa using h3)]

set_option maxHeartbeats 1000000 in
theorem prefix_ok (l : List UInt8) (f : Nat) [GoFun Tryd.prog f] (acc : Nat → Bool) (hacc : ∀ r, 128 ≤ r → acc r = acc 128) (st : St)
    (hf : ∀ (r : Nat) (st : St), ACalls Tryd.prog f [.int .i32 (r : Int)] st (fun v st' => v = .bool (acc r) ∧ st' = st) (fun _ _ => False)) :
    ACalls Tryd.prog 32 [.str l, .func (.func f) [] []] st (fun v st' => v = .int .i64 ((l.takeWhile fun c => acc c.toNat).length : Int) ∧ st' = st) (fun _ _ => False) := by
  refine ACalls.ofBody Tryd.func32 rfl Tryd.ntmps32 rfl ?_
  repeat (first | refine nl ?_ | refine AWP.seq ?_ | refine rg ?_ | refine sm rfl ?_)
  refine rgs rfl rfl fun o ho => ?_
  repeat (first | refine nl ?_ | refine AWP.block ?_)
  refine AWP.loop (α := Nat) (fun _ => [(8, .iter o), (0, .str l), (1, .func (.func f) [] [])]) (fun p => st.set o (.iter l p)) (fun p => p ≤ l.length ∧ ∀ j, j < p → ∃ b, l[j]? = some b ∧ acc b.toNat = true) (fun p => l.length - p) 0 ⟨Nat.zero_le _, fun j hj => by omega⟩ (tl3 rfl rfl rfl) (.refl _) ?_
  rintro p ⟨hp, hall⟩
  repeat (refine AWP.seq ?_)
  refine rg ?_
  rcases Nat.lt_or_ge p l.length with hlt | hge
  · have hc : l[p]? = some l[p] := List.getElem?_eq_getElem hlt
    refine nxu rfl rfl (St.obj_set _ _ _) hc fun r w hch => ?_
    rw [St.set_set]
    repeat (first | refine nl ?_ | refine AWP.seq ?_ | refine sm rfl ?_)
    refine AWP.cond_true rfl (AWP.skip ?_)
    repeat (first | refine nl ?_ | refine AWP.seq ?_ | refine rg ?_ | refine AWP.block ?_ | refine sm rfl ?_)
    refine clv rfl rfl rfl (hf r _) ?_
    repeat (first | refine nl ?_ | refine sm rfl ?_)
    have hpos := hch.pos
    have hle := hch.le
    have hre : acc r = acc (l[p]).toNat := by
      rcases Nat.lt_or_ge (l[p]).toNat 128 with h | h
      · rw [(hch.low h).1]
      · rw [hacc r (hch.high h).1, hacc _ h]
    refine AWP.cond_bool rfl (fun hb => ?_) (fun hb => AWP.skip ?_)
    · have hb' : acc (l[p]).toNat = false := by rw [← hre]; simpa using hb
      repeat (first | refine nl ?_ | refine AWP.seq ?_ | refine rg ?_ | refine sm rfl ?_)
      refine AWP.ret (rets rfl (.refl _) (StLe.new ho (.refl _)) ⟨?_, rfl⟩)
      rw [tw_len (q := fun c => acc c.toNat) hall (.inl ⟨_, hc, hb'⟩) hp]
      rfl
    · have hb' : acc (l[p]).toNat = true := by rw [← hre]; simpa using hb
      refine ⟨p + w, ⟨hle, fun j hj => ?_⟩, by omega, (tl3 rfl rfl rfl), .refl _⟩
      rcases Nat.lt_or_ge j p with h | h
      · exact hall j h
      · rcases Nat.lt_or_ge (l[p]).toNat 128 with h' | h'
        · have := (hch.low h').2
          have : j = p := by omega
          subst this
          exact ⟨_, hc, hb'⟩
        · obtain ⟨b, hb1, hb2⟩ := (hch.high h').2 j h hj
          refine ⟨b, hb1, ?_⟩
          rw [hacc _ hb2, ← hacc _ h', hb']
  · refine nxe rfl rfl (St.obj_set _ _ _) hge ?_
    repeat (first | refine nl ?_ | refine AWP.seq ?_ | refine sm rfl ?_)
    refine AWP.cond_false rfl (AWP.exit (blk_hit ?_))
    repeat (first | refine nl ?_ | refine AWP.seq ?_ | refine rg ?_ | refine sm rfl ?_ | refine lns rfl rfl ?_)
    refine AWP.ret (rets rfl (.refl _) (StLe.new ho (.refl _)) ⟨?_, rfl⟩)
    rw [tw_len (q := fun c => acc c.toNat) hall (.inr hge) hp]
    have : p = l.length := by omega
    rw [this]
    rfl
end Go.Proofs
/- The walk of the scanner's skip. No conditions: definitions and lemmas only. -/
namespace Go.Proofs
open Go.AM

theorem skip_comment : ∀ (x : List UInt8) (l : Nat), skip true x l = skip false (x.drop (x.takeWhile fun c => decide (c.toNat ≠ 10)).length) l
  | [], l => rfl
  | c :: r, l => by
    by_cases hc : c = 10
    · subst hc
      rfl
    · have hn : c.toNat ≠ 10 := fun h => hc (UInt8.toNat_inj.1 h)
      rw [skip, if_neg hc, cond_true, skip_comment r l, List.takeWhile_cons, if_pos (by simpa using hn), List.length_cons, List.drop_succ_cons]

def scanRow (s : List UInt8) (pos line : Nat) (om : Nat) : List AV := [.str s, .int .i64 (pos : Int), .int .i64 (line : Int), .amap om]

theorem skip_le : ∀ (cm : Bool) (x : List UInt8) (l : Nat), (skip cm x l).1.length ≤ x.length ∧ (skip cm x l).2 ≤ l + x.length ∧ l ≤ (skip cm x l).2 ∧ ∃ k, (skip cm x l).1 = x.drop k
  | cm, [], l => by simp [skip]
  | cm, c :: r, l => by
    have pass : ∀ cm' l', l ≤ l' → l' ≤ l + 1 → ((skip cm' r l').1.length ≤ (c :: r).length ∧ (skip cm' r l').2 ≤ l + (c :: r).length ∧ l ≤ (skip cm' r l').2 ∧ ∃ k, (skip cm' r l').1 = (c :: r).drop k) := by
      intro cm' l' h1 h2
      obtain ⟨q1, q2, q3, k, q4⟩ := skip_le cm' r l'
      refine ⟨?_, ?_, by omega, k + 1, by rw [q4, List.drop_succ_cons]⟩
      · simp only [List.length_cons]; omega
      · simp only [List.length_cons]; omega
    unfold skip
    split
    · exact pass _ _ (by omega) (by omega)
    · cases cm
      · rw [cond_false]
        split
        · exact pass _ _ (by omega) (by omega)
        · split
          · exact pass _ _ (by omega) (by omega)
          · exact ⟨Nat.le_refl _, by simp, Nat.le_refl _, 0, rfl⟩
      · exact pass _ _ (by omega) (by omega)

set_option maxHeartbeats 4000000 in
theorem skip_ok (s : List UInt8) (hs : s.length ≤ 1000000) (pos line om os : Nat) (hp : pos ≤ s.length) (hline : line ≤ 1000000 + pos) (st : St) :
    ACalls Tryd.prog 22 [.cptr os 4 0 0] (st.set os (.cells 52 4 [scanRow s pos line om]))
      (fun _ st' => st' = st.set os (.cells 52 4 [scanRow s (s.length - (skip false (s.drop pos) line).1.length) (skip false (s.drop pos) line).2 om])) (fun _ _ => False) := by
  refine ACalls.ofBody Tryd.func22 rfl Tryd.ntmps22 rfl ?_
  repeat (refine AWP.block ?_)
  refine AWP.loop (α := Nat × Nat) (fun _ => [(0, .cptr os 4 0 0)]) (fun x => st.set os (.cells 52 4 [scanRow s x.1 x.2 om])) (fun x => x.1 ≤ s.length ∧ x.2 ≤ 1000000 + x.1 ∧ skip false (s.drop x.1) x.2 = skip false (s.drop pos) line) (fun x => s.length - x.1) (pos, line) ⟨hp, hline, rfl⟩ (tl1 rfl) (.refl _) ?_
  rintro ⟨p, ln⟩ ⟨h1, h2, h3⟩
  simp only at h1 h2 h3
  repeat (refine AWP.seq ?_)
  refine AWP.draw rfl 10 10 (fun _ _ => False) rfl ?_
  repeat (first | refine ds rfl rfl ?_ | refine dq rfl rfl rfl (fun st1 hle => fa rfl rfl (nl ⟨_, rfl, rfl, rfl⟩)) ?_ | refine dq rfl rfl rfl (fun st1 hle => lns rfl rfl (nl ⟨_, rfl, rfl, rfl⟩)) ?_ | refine dq rfl rfl rfl (fun st1 hle => lc rfl rfl (hle.obj _ _ (St.obj_set _ _ _)) rfl rfl (nl ⟨_, rfl, rfl, rfl⟩)) ?_)
  refine dn ⟨fun _ => ?_, fun h => absurd h (by decide)⟩
  repeat (refine nl ?_)
  refine AWP.cond_dec rfl (fun h => AWP.skip ?_) (fun h => AWP.exit (blk_hit ?_))
  · have hlt : p < s.length := by have : (p : Int) < (s.length : Int) := h; omega
    have hc : s[p]? = some s[p] := List.getElem?_eq_getElem hlt
    have hd : s.drop p = s[p] :: s.drop (p + 1) := List.drop_eq_getElem_cons hlt
    generalize s[p] = c at hc hd
    refine AWP.weaken (tl1 (i0 := 0) rfl) (.refl _) ?_
    repeat (first | refine AWP.seq ?_ | refine AWP.block ?_)
    refine AWP.draw rfl 10 10 (fun _ _ => False) rfl ?_
    repeat (first | refine ds rfl rfl ?_ | refine dq rfl rfl rfl (fun st1 hle => fa rfl rfl (nl ⟨_, rfl, rfl, rfl⟩)) ?_ | refine dq rfl rfl rfl (fun st1 hle => lc rfl rfl (hle.obj _ _ (St.obj_set _ _ _)) rfl rfl (nl ⟨_, rfl, rfl, rfl⟩)) ?_ | refine dq rfl rfl rfl (fun st1 hle => sx rfl rfl rfl rfl (by assumption) (nl ⟨_, rfl, rfl, rfl⟩)) ?_)
    refine dn ⟨fun _ => ?_, fun h => absurd h (by decide)⟩
    repeat (first | refine nl ?_ | refine AWP.seq ?_ | refine rg ?_ | refine AWP.block ?_ | refine sm rfl ?_)
    have hcn : ∀ k : Nat, ((c.toNat : Int) = (k : Int)) ↔ c.toNat = k := fun k => by omega
    refine AWP.cond_dec rfl (fun h => ?_) (fun h => ?_)
    · have hc10 : c = 10 := UInt8.toNat_inj.1 (by have : (c.toNat : Int) = 10 := h; show c.toNat = 10; omega)
      repeat (first | refine AWP.seq ?_ | refine rg ?_ | refine sm rfl ?_ | refine fa rfl rfl ?_ | refine lc rfl rfl (St.obj_set _ _ _) rfl rfl ?_ | refine inc rfl rfl rfl (by omega) ?_)
      refine sos (rows' := [scanRow s p (ln + 1) om]) rfl rfl rfl rfl rfl rfl rfl rfl ?_
      repeat (first | refine nl ?_ | refine rg ?_ | refine sm rfl ?_ | refine fa rfl rfl ?_ | refine lc rfl rfl (St.obj_set _ _ _) rfl rfl ?_ | refine inc rfl rfl rfl (by omega) ?_)
      refine sos (rows' := [scanRow s (p + 1) (ln + 1) om]) rfl rfl rfl rfl rfl rfl rfl rfl ?_
      repeat (refine nl ?_)
      refine ⟨(p + 1, ln + 1), ⟨hlt, by simp only; omega, ?_⟩, by simp only; omega, (tl1 rfl), .refl _⟩
      rw [← h3, hd, hc10]
      rfl
    · have hc10 : c ≠ 10 := fun e => h (by rw [e]; rfl)
      have hnum : ∀ k : UInt8, ((c.toNat : Int) = (k.toNat : Int)) ↔ c = k := fun k => by
        rw [Int.ofNat_inj]
        exact UInt8.toNat_inj
      refine AWP.weaken (tl2 (i0 := 2) (i1 := 0) rfl rfl) (.refl _) ?_
      refine tst 39 (.bool (decide (c = 32 ∨ c = 9 ∨ c = 13))) (rg ?_) ?_
      · repeat (refine sm rfl ?_)
        refine AOps.split 42 rfl (fun h1 => ?_) (fun h1 => ?_)
        · have h1' : c = 32 := (hnum 32).1 h1
          repeat (first | refine sm rfl ?_ | refine uw rfl ?_)
          exact nl ⟨TLe.consE rfl (by simp [h1', absV, abs1]) (tl2 rfl rfl), .refl _⟩
        · have h1' : c ≠ 32 := fun e => h1 ((hnum 32).2 e)
          repeat (refine sm rfl ?_)
          refine AOps.split 46 rfl (fun h2 => ?_) (fun h2 => ?_)
          · have h2' : c = 9 := (hnum 9).1 h2
            repeat (first | refine sm rfl ?_ | refine uw rfl ?_)
            exact nl ⟨TLe.consE rfl (by simp [h2', absV, abs1]) (tl2 rfl rfl), .refl _⟩
          · have h2' : c ≠ 9 := fun e => h2 ((hnum 9).2 e)
            repeat (refine sm rfl ?_)
            exact nl ⟨TLe.consE rfl (by simp only [h1', h2', false_or]; congr 1; exact decide_eq_decide.2 (hnum 13)) (tl2 rfl rfl), .refl _⟩
      · refine AWP.cond_dec rfl (fun hb => ?_) (fun hb => ?_)
        · repeat (first | refine rg ?_ | refine sm rfl ?_ | refine fa rfl rfl ?_ | refine lc rfl rfl (St.obj_set _ _ _) rfl rfl ?_ | refine inc rfl rfl rfl (by omega) ?_)
          refine sos (rows' := [scanRow s (p + 1) ln om]) rfl rfl rfl rfl rfl rfl rfl rfl ?_
          repeat (refine nl ?_)
          refine ⟨(p + 1, ln), ⟨hlt, by simp only; omega, ?_⟩, by simp only; omega, (tl1 rfl), .refl _⟩
          rw [← h3, hd, skip, if_neg hc10, cond_false, if_pos hb]
        · have hpl : p ≤ s.length := h1
          repeat (refine AWP.seq ?_)
          refine AWP.draw rfl 8 8 (fun _ _ => False) rfl ?_
          repeat (first | refine ds rfl rfl ?_ | refine dq rfl rfl rfl (fun st1 hle => fa rfl rfl (nl ⟨_, rfl, rfl, rfl⟩)) ?_ | refine dq rfl rfl rfl (fun st1 hle => lc rfl rfl (hle.obj _ _ (St.obj_set _ _ _)) rfl rfl (nl ⟨_, rfl, rfl, rfl⟩)) ?_)
          refine dn ⟨fun _ => ?_, fun h => absurd h (by decide)⟩
          repeat (refine ssl rfl rfl rfl (by omega) ?_)
          refine cle rfl rfl (hasPrefix_ok (s.drop p) [47, 47] _) ?_
          repeat (first | refine nl ?_ | refine sm rfl ?_)
          have htw : (s.drop p).take [47, 47].length = [47, 47] ↔ (c = 47 ∧ (s.drop (p + 1)).head? = some 47) := by
            rw [hd]
            cases hr : s.drop (p + 1) with
            | nil => simp
            | cons b r => simp
          refine AWP.cond_dec rfl (fun ht => ?_) (fun ht => ?_)
          · obtain ⟨ht1, ht2⟩ := htw.1 ht
            skip
            refine AWP.draw rfl 14 14 (fun _ _ => False) rfl ?_
            repeat (first | refine ds rfl rfl ?_ | refine dq rfl rfl rfl (fun st1 hle => fa rfl rfl (nl ⟨_, rfl, rfl, rfl⟩)) ?_ | refine dq rfl rfl rfl (fun st1 hle => lc rfl rfl (hle.obj _ _ (St.obj_set _ _ _)) rfl rfl (nl ⟨_, rfl, rfl, rfl⟩)) ?_ | refine dq rfl rfl rfl (fun st1 hle => ssl rfl rfl rfl (by omega) (nl ⟨_, rfl, rfl, rfl⟩)) ?_)
            refine dq rfl rfl rfl (fun st1 hle => cle rfl rfl (prefix_ok (s.drop p) 33 (fun r => decide (r ≠ 10)) (fun r hr => by simp; omega) st1 notNl_ok) (nl ⟨_, rfl, rfl, rfl⟩)) ?_
            refine dn ⟨fun _ => ?_, fun h => absurd h (by decide)⟩
            have htl := (List.takeWhile_prefix (fun c : UInt8 => decide (c.toNat ≠ 10)) (l := s.drop p)).length_le
            have htp : 1 ≤ ((s.drop p).takeWhile fun c => decide (c.toNat ≠ 10)).length := by
              have hn : c.toNat ≠ 10 := fun h => hc10 (UInt8.toNat_inj.1 h)
              rw [hd, List.takeWhile_cons, if_pos (by simpa using hn)]
              simp
            rw [List.length_drop] at htl
            have hsk : skip false (s.drop p) ln = skip false (s.drop (p + ((s.drop p).takeWhile fun c => decide (c.toNat ≠ 10)).length)) ln := by
              have e1 : skip false (s.drop p) ln = skip true (s.drop p) ln := by
                rw [hd, skip, if_neg hc10, cond_false, if_neg hb, if_pos ⟨ht1, ht2⟩, skip, if_neg hc10, cond_true]
              rw [e1, skip_comment, List.drop_drop]
            generalize ((s.drop p).takeWhile fun c => decide (c.toNat ≠ 10)).length = m at htl htp hsk
            repeat (first | refine sm rfl ?_ | refine fa rfl rfl ?_ | refine adn rfl rfl rfl (by omega) ?_)
            refine sos (rows' := [scanRow s (p + m) ln om]) rfl rfl rfl rfl rfl rfl rfl rfl ?_
            repeat (refine nl ?_)
            refine ⟨(p + m, ln), ⟨by simp only; omega, by simp only; omega, ?_⟩, by simp only; omega, (tl1 rfl), .refl _⟩
            rw [← h3]
            exact hsk.symm
          · refine AWP.ret (rets rfl (.refl _) (.refl _) ?_)
            have hfin : skip false (s.drop p) ln = (s.drop p, ln) := by
              rw [hd, skip, if_neg hc10, cond_false, if_neg hb, if_neg (fun e => ht (htw.2 e))]
            rw [← h3, hfin, List.length_drop, show s.length - (s.length - p) = p by omega]
  · have hpe : p = s.length := by have : ¬ (p : Int) < (s.length : Int) := h; omega
    subst hpe
    refine rets rfl (.refl _) (.refl _) ?_
    rw [← h3, List.drop_length]
    rfl
end Go.Proofs
/- The walk of the scanner's number. No conditions: definitions and lemmas only. -/
namespace Go.Proofs
open Go.AM

def zTk : Tk := ⟨0, 0, [], 0⟩
def tkE (t : Tk) (e : Nat) : AV := .tuple [.agg (tokRow t), .int .i64 (e : Int)]

theorem digits_snoc (l : List UInt8) (c : UInt8) : digits (l ++ [c]) = digits l * 10 + (c.toNat - 48) := by simp [digits]

theorem digits_lt : ∀ (n : Nat) (l : List UInt8), l.length = n → (∀ c ∈ l, isDig c = true) → digits l < 10 ^ n
  | 0, l, h, _ => by
    have : l = [] := List.eq_nil_of_length_eq_zero h
    subst this
    simp [digits]
  | n + 1, l, h, hd => by
    obtain ⟨l', c, rfl⟩ : ∃ l' c, l = l' ++ [c] := ⟨l.dropLast, l.getLast (by rintro rfl; simp at h), (List.dropLast_concat_getLast _).symm⟩
    have ih := digits_lt n l' (by simpa using h) fun c hc => hd c (by simp [hc])
    have hc := hd c (by simp)
    simp only [isDig, Bool.and_eq_true, decide_eq_true_eq] at hc
    rw [digits_snoc, Nat.pow_succ]
    omega

theorem wrap32 {a : Int} (h : -2147483648 ≤ a ∧ a < 2147483648) : IntKind.i32.wrap a = a := by
  simp only [IntKind.wrap, IntKind.bits, IntKind.signed]
  simp
  split <;> omega

theorem npA_const : ∀ r, 128 ≤ r → npA r = npA 128 := by
  intro r hr
  have h1 : ¬ r ≤ 122 := by omega
  have h2 : ¬ r ≤ 90 := by omega
  have h3 : ¬ r = 95 := by omega
  have h4 : ¬ r ≤ 57 := by omega
  simp [npA, letA, digA, h1, h2, h3, h4]
theorem digA_const : ∀ r, 128 ≤ r → digA r = digA 128 := by
  intro r hr
  have h4 : ¬ r ≤ 57 := by omega
  simp [digA, h4]

theorem tw_pos (q : UInt8 → Bool) (l : List UInt8) : 0 < (l.takeWhile q).length ↔ (l.head?.map q).getD false = true := by
  cases l with
  | nil => simp
  | cons c l =>
    cases h : q c <;> simp [h]

/-- What number answers, and where it goes on. -/
def numR (rest : List UInt8) (n line : Nat) : Except Nat Tk := if 18 < n then .error 5 else if ((rest.drop n).head?.map isNP).getD false = true then .error 6 else .ok ⟨2, line, [], digits (rest.take n)⟩

def exV : Except Nat Tk → AV
  | .error e => tkE zTk e
  | .ok t => tkE t 0
def exP {α : Type} (pos n : Nat) : Except Nat α → Nat
  | .error _ => pos
  | .ok _ => pos + n

set_option maxHeartbeats 4000000 in
theorem number_ok (s rest : List UInt8) (hs : s.length ≤ 1000000) (n pos line om os : Nat) (hn : n ≤ rest.length) (hp : pos + n ≤ s.length) (hd : ∀ c ∈ rest.take n, isDig c = true) (st : St) :
    ACalls Tryd.prog 35 [.cptr os 4 0 0, .str rest, .int .i64 (n : Int)] (st.set os (.cells 52 4 [scanRow s pos line om]))
      (fun v st' => v = exV (numR rest n line) ∧ st' = st.set os (.cells 52 4 [scanRow s (exP pos n (numR rest n line)) line om])) (fun _ _ => False) := by
  refine ACalls.ofBody Tryd.func35 rfl Tryd.ntmps35 rfl ?_
  repeat (refine AWP.seq ?_)
  refine rg ?_
  refine al rfl rfl fun o6 ho6 => ?_
  have hne : o6 ≠ os := by rintro rfl; rw [St.obj_set] at ho6; cases ho6
  have hn6 : st.obj o6 = none := by rwa [St.obj_set_ne hne] at ho6
  have hos : ∀ (c : AObj) (d : AObj), ((st.set os c).set o6 d).obj os = some c := fun c d => (St.obj_set_ne (fun e => hne e.symm)).trans (St.obj_set _ _ _)
  repeat (first | refine nl ?_ | refine AWP.seq ?_ | refine rg ?_ | refine sm rfl ?_)
  refine AWP.cond_dec rfl (fun h => ?_) (fun h => AWP.skip ?_)
  · have h' : 18 < n := by have : (18 : Int) < (n : Int) := h; omega
    have e : numR rest n line = .error 5 := by rw [numR, if_pos h']
    repeat (refine AWP.seq ?_)
    refine rg ?_
    refine bds (cs := tokRow zTk) rfl rfl rfl rfl ?_
    refine soV rfl rfl rfl rfl rfl rfl ?_
    repeat (first | refine nl ?_ | refine sm rfl ?_)
    refine AWP.ret (rets (resCW rfl (St.obj_set _ _ _) rfl rfl rfl rfl) (.refl _) (StLe.new ho6 (.refl _)) ⟨?_, ?_⟩)
    · rw [e]; rfl
    · rw [e]; rfl
  · have h' : n ≤ 18 := by have : ¬ (18 : Int) < (n : Int) := h; omega
    repeat (first | refine AWP.seq ?_ | refine rg ?_ | refine sm rfl ?_ | refine ssl rfl rfl rfl (by omega) ?_)
    refine cle rfl rfl (prefix_ok (rest.drop n) 36 npA npA_const _ isNamePart_ok) ?_
    repeat (first | refine nl ?_ | refine sm rfl ?_)
    refine AWP.cond_dec rfl (fun h2 => ?_) (fun h2 => AWP.skip ?_)
    · have h2' : ((rest.drop n).head?.map isNP).getD false = true := (tw_pos isNP _).1 (Int.ofNat_lt.1 h2)
      have e : numR rest n line = .error 6 := by rw [numR, if_neg (by omega), if_pos h2']
      repeat (refine AWP.seq ?_)
      refine rg ?_
      refine bds (cs := tokRow zTk) rfl rfl rfl rfl ?_
      refine soV rfl rfl rfl rfl rfl rfl ?_
      repeat (first | refine nl ?_ | refine sm rfl ?_)
      refine AWP.ret (rets (resCW rfl (St.obj_set _ _ _) rfl rfl rfl rfl) (.refl _) (StLe.new ho6 (.refl _)) ⟨?_, ?_⟩)
      · rw [e]; rfl
      · rw [e]; rfl
    · have h2' : ¬ ((rest.drop n).head?.map isNP).getD false = true := fun e => h2 (Int.ofNat_lt.2 ((tw_pos isNP _).2 e))
      have e : numR rest n line = .ok ⟨2, line, [], digits (rest.take n)⟩ := by rw [numR, if_neg (by omega), if_neg h2']
      rw [e]
      refine AWP.weaken (tl4 (i0 := 0) (i1 := 1) (i2 := 2) (i3 := 6) rfl rfl rfl rfl) (.refl _) ?_
      repeat (refine AWP.seq ?_)
      refine rg ?_
      refine sm rfl ?_
      refine sm rfl ?_
      refine fa rfl rfl ?_
      refine lc rfl rfl (hos _ _) rfl rfl ?_
      repeat (first | refine sm rfl ?_ | refine fa rfl rfl ?_ | refine adn rfl rfl rfl (by omega) ?_)
      refine so (rows' := [scanRow s (pos + n) line om]) rfl rfl rfl (hos _ _) rfl rfl rfl rfl rfl ?_
      rw [St.set_inner hne]
      repeat (first | refine nl ?_ | refine AWP.seq ?_ | refine rg ?_ | refine sm rfl ?_ | refine ssh rfl rfl rfl (by omega) ?_)
      refine rgs rfl rfl fun oi hoi => ?_
      repeat (first | refine nl ?_ | refine AWP.block ?_)
      have hds : (rest.take n).length = n := by rw [List.length_take]; omega
      have hneo := St.new_ne hoi
      refine AWP.loop (α := Nat) (fun j => [(31, .iter oi), (8, .int .i64 ((digits ((rest.take n).take j) : Nat) : Int)), (0, .cptr os 4 0 0), (6, .cptr o6 4 0 0)])
        (fun j => ((st.set os (.cells 52 4 [scanRow s (pos + n) line om])).set o6 (.cells 36 4 [tokRow zTk])).set oi (.iter (rest.take n) j)) (fun j => j ≤ n) (fun j => n - j) 0 (Nat.zero_le _) (tl4 rfl rfl rfl rfl) (.refl _) ?_
      intro j hj
      repeat (refine AWP.seq ?_)
      refine rg ?_
      rcases Nat.lt_or_ge j n with hlt | hge
      · have hc : (rest.take n)[j]? = some (rest.take n)[j] := List.getElem?_eq_getElem (by omega)
        have hdc := hd _ (List.getElem_mem (show j < (rest.take n).length by omega))
        have hsn : digits ((rest.take n).take (j + 1)) = digits ((rest.take n).take j) * 10 + ((rest.take n)[j].toNat - 48) := by
          rw [List.take_add_one, hc, Option.toList_some, digits_snoc]
        have hb : digits ((rest.take n).take j) < 10 ^ j := digits_lt j _ (by rw [List.length_take, hds]; omega) fun c hc => hd c (List.mem_of_mem_take hc)
        have hb2 : 10 ^ j ≤ 10 ^ 17 := Nat.pow_le_pow_right (by omega) (by omega)
        generalize (rest.take n)[j] = c at hc hdc hsn
        simp only [isDig, Bool.and_eq_true, decide_eq_true_eq] at hdc
        refine nxu rfl rfl (St.obj_set _ _ _) hc fun r w hch => ?_
        obtain ⟨rfl, rfl⟩ := hch.low (by omega)
        rw [St.set_set]
        repeat (first | refine nl ?_ | refine AWP.seq ?_ | refine sm rfl ?_)
        refine AWP.cond_true rfl (AWP.skip ?_)
        repeat (first | refine nl ?_ | refine AWP.seq ?_ | refine rg ?_ | refine AWP.block ?_ | refine sm rfl ?_)
        generalize digits ((rest.take n).take j) = v at hsn hb
        have hb3 : v < 10 ^ 17 := by omega
        refine mlk (c := ((v * 10 : Nat) : Int)) rfl rfl rfl (by rw [wrap64 (by omega)]; omega) ?_
        repeat (refine sm rfl ?_)
        refine sbk (c := ((c.toNat - 48 : Nat) : Int)) rfl rfl rfl (by rw [wrap32 (by omega)]; omega) ?_
        refine cv (c := ((c.toNat - 48 : Nat) : Int)) rfl rfl (wrap64 (by omega)) ?_
        repeat (first | refine nl ?_ | refine sm rfl ?_ | refine adn rfl rfl rfl (by omega) ?_)
        refine ⟨j + 1, hlt, by omega, ?_, .refl _⟩
        rw [hsn]
        exact (tl4 rfl rfl rfl rfl)
      · have hjn : j = n := by omega
        subst hjn
        refine nxe rfl rfl (St.obj_set _ _ _) (by omega) ?_
        repeat (first | refine nl ?_ | refine AWP.seq ?_ | refine sm rfl ?_)
        refine AWP.cond_false rfl (AWP.exit (blk_hit ?_))
        rw [show (rest.take j).take j = rest.take j from List.take_of_length_le (by omega)]
        refine AWP.weaken (T' := [(8, .int .i64 ((digits (rest.take j) : Nat) : Int)), (0, .cptr os 4 0 0), (6, .cptr o6 4 0 0)]) (tl3 rfl rfl rfl) (StLe.new hoi (.refl _)) ?_
        repeat (refine AWP.seq ?_)
        refine rg ?_
        refine sm rfl ?_
        refine sm rfl ?_
        refine fa rfl rfl ?_
        refine lc rfl rfl (hos _ _) rfl rfl ?_
        repeat (refine sm rfl ?_)
        refine bds (cs := tokRow ⟨2, line, [], digits (rest.take j)⟩) rfl rfl rfl rfl ?_
        refine soV rfl rfl rfl rfl rfl rfl ?_
        repeat (first | refine nl ?_ | refine sm rfl ?_)
        refine AWP.ret (rets (resCW rfl (St.obj_set _ _ _) rfl rfl rfl rfl) (.refl _) (StLe.new (by rw [St.obj_set_ne hne]; exact hn6) (.refl _)) ⟨rfl, rfl⟩)
end Go.Proofs
/- The walk of the scanner's token. No conditions: definitions and lemmas only. -/
namespace Go.Proofs
open Go.AM

def allSigns : List (List UInt8) := signs2 ++ signs1.map fun c => [c]
def signRow : List AV := allSigns.map .str

theorem find_len (k : Nat) (rest : List UInt8) : ∀ (S : List (List UInt8)), (∀ g ∈ S, g.length = k) → S.find? (fun g => decide (rest.take g.length = g)) = if rest.take k ∈ S then some (rest.take k) else none
  | [], _ => by simp
  | g :: S, h => by
    have hg := h g (by simp)
    have ih := find_len k rest S fun g hg => h g (List.mem_cons_of_mem _ hg)
    rw [List.find?_cons]
    by_cases e : rest.take k = g
    · simp [hg, e]
    · rw [hg, decide_eq_false e, ih]
      simp [List.mem_cons, e]

theorem sign_find (rest : List UInt8) : sign rest = (allSigns.find? fun g => decide (rest.take g.length = g)).getD [] := by
  unfold allSigns
  rw [List.find?_append, find_len 2 rest signs2 (by decide), find_len 1 rest _ (by decide)]
  unfold sign
  by_cases h2 : rest.take 2 ∈ signs2
  · simp [h2]
  · rw [if_neg h2, if_neg h2]
    cases rest with
    | nil => simp
    | cons c r =>
      by_cases h1 : c ∈ signs1
      · have : (c :: r).take 1 ∈ signs1.map fun c => [c] := List.mem_map.2 ⟨c, h1, by simp⟩
        rw [if_pos this]
        simp [h1]
      · have : ¬ (c :: r).take 1 ∈ signs1.map fun c => [c] := by
          simp only [List.mem_map, List.take_succ_cons, List.take_zero, List.cons.injEq, and_true, exists_eq_right]
          exact h1
        rw [if_neg this]
        simp [h1]

theorem sign_at {rest : List UInt8} {i : Nat} {g : List UInt8} (hi : allSigns[i]? = some g) (hno : ∀ j, j < i → ∀ g', allSigns[j]? = some g' → ¬ rest.take g'.length = g') (hg : rest.take g.length = g) : sign rest = g := by
  rw [sign_find]
  have : allSigns.find? (fun g => decide (rest.take g.length = g)) = some g := by
    rw [List.find?_eq_some_iff_getElem]
    refine ⟨by simpa using hg, i, (List.getElem?_eq_some_iff.1 hi).1, (List.getElem?_eq_some_iff.1 hi).2, fun j hj => ?_⟩
    have hjl : j < allSigns.length := by have := (List.getElem?_eq_some_iff.1 hi).1; omega
    simpa using hno j hj _ (List.getElem?_eq_getElem hjl)
  rw [this]
  rfl

theorem sign_none {rest : List UInt8} (hno : ∀ j, j < 24 → ∀ g', allSigns[j]? = some g' → ¬ rest.take g'.length = g') : sign rest = [] := by
  rw [sign_find]
  have : allSigns.find? (fun g => decide (rest.take g.length = g)) = none := by
    rw [List.find?_eq_none]
    intro g hg
    obtain ⟨j, hj, rfl⟩ := List.getElem_of_mem hg
    simpa using hno j hj _ (List.getElem?_eq_getElem hj)
  rw [this]
  rfl

theorem mem_tw {q : UInt8 → Bool} : ∀ {l : List UInt8} {c : UInt8}, c ∈ l.takeWhile q → q c = true
  | [], c, h => by cases h
  | a :: l, c, h => by
    rw [List.takeWhile_cons] at h
    split at h
    · rename_i ha
      rcases List.mem_cons.1 h with rfl | h
      · exact ha
      · exact mem_tw h
    · cases h

def oneV : Except Nat (Tk × Nat) → AV
  | .error e => tkE zTk e
  | .ok (t, _) => tkE t 0
def oneP (pos : Nat) : Except Nat (Tk × Nat) → Nat
  | .error _ => pos
  | .ok (_, m) => pos + m

structure WMap (m : List (List UInt8 × AV)) : Prop where
  look : ∀ nm, slook nm m = if nm ∈ words then some (.bool true) else none

set_option maxHeartbeats 8000000 in
theorem token_ok (s : List UInt8) (hs : s.length ≤ 1000000) (pos line om os : Nat) (hp : pos < s.length) (wm : List (List UInt8 × AV)) (hwm : WMap wm) (st : St) (hom : st.obj om = some (.smap wm)) (hoo : om ≠ os) (hg : st.row 1 = some signRow) :
    ACalls Tryd.prog 23 [.cptr os 4 0 0] (st.set os (.cells 52 4 [scanRow s pos line om]))
      (fun v st' => v = oneV (one (s.drop pos) line) ∧ st' = st.set os (.cells 52 4 [scanRow s (oneP pos (one (s.drop pos) line)) line om])) (fun _ _ => False) := by
  refine ACalls.ofBody Tryd.func23 rfl Tryd.ntmps23 rfl ?_
  have hple : pos ≤ s.length := by omega
  have hd : s.drop pos = s[pos] :: s.drop (pos + 1) := List.drop_eq_getElem_cons hp
  have hdl : (s.drop pos).length = s.length - pos := List.length_drop ..
  repeat (refine AWP.seq ?_)
  refine rg ?_
  refine al rfl rfl fun o2 ho2 => ?_
  have hne := St.new_ne ho2
  have hn2 := St.new_old ho2
  have hos : ∀ (c : AObj) (d : AObj), ((st.set os c).set o2 d).obj os = some c := fun c d => St.obj_under hne c d
  have hosn : ∀ (c : AObj) (d : AObj), ((st.set os c).set o2 d).notok.obj os = some c := fun c d => St.obj_under hne c d
  have homn : ∀ (c : AObj) (d : AObj), ((st.set os c).set o2 d).obj om = some (.smap wm) := fun c d => by
    have h2 : om ≠ o2 := by rintro rfl; rw [hn2] at hom; cases hom
    rw [St.obj_set_ne h2, St.obj_set_ne hoo]
    exact hom
  repeat (first | refine nl ?_ | refine AWP.seq ?_ | refine sm rfl ?_)
  have hosn1 := hosn (.cells 52 4 [scanRow s pos line om]) (.cells 36 4 [tokRow zTk])
  refine AWP.draw rfl 8 8 (fun _ _ => False) rfl ?_
  repeat (first | refine ds rfl rfl ?_ | refine dq rfl rfl rfl (fun st1 hle => fa rfl rfl (nl ⟨_, rfl, rfl, rfl⟩)) ?_ | refine dq rfl rfl rfl (fun st1 hle => lc rfl rfl (hle.obj _ _ (by assumption)) rfl rfl (nl ⟨_, rfl, rfl, rfl⟩)) ?_)
  refine dn ⟨fun _ => ?_, fun h => absurd h (by decide)⟩
  repeat (first | refine nl ?_ | refine AWP.seq ?_ | refine rg ?_ | refine sm rfl ?_ | refine ssl rfl rfl rfl (by omega) ?_)
  refine cle rfl rfl (prefix_ok (s.drop pos) 34 digA digA_const _ isDigit_ok) ?_
  repeat (first | refine nl ?_ | refine AWP.seq ?_ | refine rg ?_ | refine sm rfl ?_)
  have hdt := tw_pos isDig (s.drop pos)
  have hnt := tw_pos isNP (s.drop pos)
  have hdle := (List.takeWhile_prefix isDig (l := s.drop pos)).length_le
  have hnle := (List.takeWhile_prefix isNP (l := s.drop pos)).length_le
  rw [hdl] at hdle hnle
  have hone : one (s.drop pos) line = bif isLet s[pos] then (let nm := (s.drop pos).takeWhile isNP; if 12 < nm.length then .error 5 else .ok (⟨if nm ∈ words then 3 else 1, line, nm, 0⟩, nm.length))
    else bif isDig s[pos] then (let ds := (s.drop pos).takeWhile isDig; if 18 < ds.length then .error 5 else if (((s.drop pos).drop ds.length).head?.map isNP).getD false = true then .error 6 else .ok (⟨2, line, [], digits ds⟩, ds.length))
    else if sign (s.drop pos) = [] then .error 6 else .ok (⟨4, line, sign (s.drop pos), 0⟩, (sign (s.drop pos)).length) := by
    rw [hd]
    rfl
  have hhead : (s.drop pos).head? = some s[pos] := by rw [hd]; rfl
  rw [hhead] at hdt hnt
  simp only [Option.map_some, Option.getD_some] at hdt hnt
  generalize s[pos] = c at hone hdt hnt
  refine AWP.cond_dec rfl (fun h => ?_) (fun h => AWP.skip ?_)
  · have hcd : isDig c = true := hdt.1 (Int.ofNat_lt.1 h)
    have hcl : isLet c = false := by
      cases hl : isLet c with
      | false => rfl
      | true => simp [isLet, isDig] at hl hcd; omega
    rw [hcl, cond_false, hcd, cond_true] at hone
    have htk : (s.drop pos).take ((s.drop pos).takeWhile isDig).length = (s.drop pos).takeWhile isDig := (List.prefix_iff_eq_take.1 (List.takeWhile_prefix isDig)).symm
    have hres : one (s.drop pos) line = (match numR (s.drop pos) ((s.drop pos).takeWhile isDig).length line with | .error e => .error e | .ok t => .ok (t, ((s.drop pos).takeWhile isDig).length)) := by
      rw [hone, numR, htk]
      simp only
      split
      · rfl
      · split <;> rfl
    repeat (first | refine AWP.seq ?_ | refine rg ?_ | refine sm rfl ?_)
    rw [St.set_comm st (Ne.symm hne)]
    refine cl rfl rfl (number_ok s (s.drop pos) hs ((s.drop pos).takeWhile isDig).length pos line om os (by omega) (by omega) (by
      rw [htk]
      intro c hc
      exact mem_tw hc) _) fun v st' ⟨hv, hst⟩ => ?_
    subst hv
    subst hst
    rw [St.set_comm st hne]
    have hn2' : ∀ c : AObj, (st.set os c).obj o2 = none := fun c => by rw [St.obj_set_ne hne]; exact hn2
    cases hnr : numR (s.drop pos) ((s.drop pos).takeWhile isDig).length line with
    | error e =>
      rw [hnr] at hres
      rw [hres]
      refine AOps.weaken (T' := [(26, exV (.error e)), (2, .cptr o2 4 0 0)]) (tl2 rfl rfl) (.refl _) ?_
      repeat (refine sm rfl ?_)
      refine soV rfl rfl rfl rfl rfl rfl ?_
      repeat (first | refine nl ?_ | refine sm rfl ?_)
      exact AWP.ret (rets (resCW rfl (St.obj_set _ _ _) rfl rfl rfl rfl) (.refl _) (StLe.new (hn2' _) (.refl _)) ⟨rfl, rfl⟩)
    | ok t =>
      rw [hnr] at hres
      rw [hres]
      refine AOps.weaken (T' := [(26, exV (.ok t)), (2, .cptr o2 4 0 0)]) (tl2 rfl rfl) (.refl _) ?_
      repeat (refine sm rfl ?_)
      refine soV rfl rfl rfl rfl rfl rfl ?_
      repeat (first | refine nl ?_ | refine sm rfl ?_)
      exact AWP.ret (rets (resCW rfl (St.obj_set _ _ _) rfl rfl rfl rfl) (.refl _) (StLe.new (hn2' _) (.refl _)) ⟨rfl, rfl⟩)
  · have hcd : isDig c = false := by
      cases hl : isDig c with
      | false => rfl
      | true => exact absurd (Int.ofNat_lt.2 (hdt.2 hl)) h
    have hn2' : ∀ c : AObj, (st.set os c).obj o2 = none := fun c => by rw [St.obj_set_ne hne]; exact hn2
    refine AWP.weaken (tl4 (i0 := 4) (i1 := 3) (i2 := 2) (i3 := 0) rfl rfl rfl rfl) (.refl _) ?_
    repeat (first | refine AWP.seq ?_ | refine rg ?_ | refine sm rfl ?_)
    refine cle rfl rfl (prefix_ok (s.drop pos) 36 npA npA_const _ isNamePart_ok) ?_
    repeat (first | refine nl ?_ | refine AWP.seq ?_ | refine rg ?_ | refine sm rfl ?_)
    refine AWP.cond_dec rfl (fun h => ?_) (fun h => AWP.skip ?_)
    · have hcl : isLet c = true := by
        have h1 : isNP c = true := hnt.1 (Int.ofNat_lt.1 h)
        simpa [isNP, hcd] using h1
      rw [hcl, cond_true] at hone
      have htk : (s.drop pos).take ((s.drop pos).takeWhile isNP).length = (s.drop pos).takeWhile isNP := (List.prefix_iff_eq_take.1 (List.takeWhile_prefix isNP)).symm
      change _ = (((s.drop pos).takeWhile fun c => npA c.toNat)) at htk
      have hnpe : ((s.drop pos).takeWhile fun c => npA c.toNat) = (s.drop pos).takeWhile isNP := rfl
      rw [hnpe] at htk ⊢
      generalize (s.drop pos).takeWhile isNP = nm at hone htk hnle
      simp only at hone
      refine AWP.weaken (tl5 (i0 := 6) (i1 := 4) (i2 := 3) (i3 := 2) (i4 := 0) rfl rfl rfl rfl rfl) (.refl _) ?_
      repeat (first | refine nl ?_ | refine AWP.seq ?_ | refine rg ?_ | refine sm rfl ?_)
      refine AWP.cond_dec rfl (fun h2 => ?_) (fun h2 => AWP.skip ?_)
      · have h2' : 12 < nm.length := by have : (12 : Int) < (nm.length : Int) := h2; omega
        rw [if_pos h2'] at hone
        rw [hone]
        repeat (refine AWP.seq ?_)
        refine rg ?_
        refine bds (cs := tokRow zTk) rfl rfl rfl rfl ?_
        refine soV rfl rfl rfl rfl rfl rfl ?_
        repeat (first | refine nl ?_ | refine sm rfl ?_)
        exact AWP.ret (rets (resCW rfl (St.obj_set _ _ _) rfl rfl rfl rfl) (.refl _) (StLe.new ho2 (.refl _)) ⟨rfl, rfl⟩)
      · have h2' : ¬ 12 < nm.length := by have : ¬ (12 : Int) < (nm.length : Int) := h2; omega
        rw [if_neg h2'] at hone
        rw [hone]
        have hos1 := hos (.cells 52 4 [scanRow s pos line om]) (.cells 36 4 [tokRow zTk])
        repeat (first | refine AWP.seq ?_ | refine rg ?_ | refine sm rfl ?_ | refine fa rfl rfl ?_ | refine lc rfl rfl (by assumption) rfl rfl ?_ | refine adn rfl rfl rfl (by omega) ?_)
        refine so (rows' := [scanRow s (pos + nm.length) line om]) rfl rfl rfl (hos _ _) rfl rfl rfl rfl rfl ?_
        rw [St.set_inner hne]
        repeat (first | refine nl ?_ | refine AWP.seq ?_ | refine rg ?_ | refine sm rfl ?_)
        have hosn2 := hosn (.cells 52 4 [scanRow s (pos + nm.length) line om]) (.cells 36 4 [tokRow zTk])
        refine AWP.weaken (tl5 (i0 := 7) (i1 := 6) (i2 := 4) (i3 := 2) (i4 := 0) rfl rfl rfl rfl rfl) (.refl _) ?_
        skip
        refine AWP.draw rfl 7 7 (fun _ _ => False) rfl ?_
        repeat (first | refine ds rfl rfl ?_ | refine dq rfl rfl rfl (fun st1 hle => fa rfl rfl (nl ⟨_, rfl, rfl, rfl⟩)) ?_ | refine dq rfl rfl rfl (fun st1 hle => lc rfl rfl (hle.obj _ _ (by assumption)) rfl rfl (nl ⟨_, rfl, rfl, rfl⟩)) ?_ | refine dq rfl rfl rfl (fun st1 hle => ssh rfl rfl rfl (by omega) (nl ⟨_, rfl, rfl, rfl⟩)) ?_)
        refine dn ⟨fun _ => ?_, fun h => absurd h (by decide)⟩
        refine lku rfl rfl rfl (homn _ _) ?_
        rw [htk, hwm.look]
        have hval : ((if nm ∈ words then some (AV.bool true) else none).getD (absV (.bool false))) = .bool (decide (nm ∈ words)) := by
          by_cases hw : nm ∈ words <;> simp [hw, absV, abs1]
        rw [hval]
        repeat (refine nl ?_)
        refine midk [(7, .int .i64 ((if nm ∈ words then 3 else 1 : Nat) : Int)), (6, .int .i64 (nm.length : Int)), (4, .str (s.drop pos)), (2, .cptr o2 4 0 0), (0, .cptr os 4 0 0)] ((st.set os (.cells 52 4 [scanRow s (pos + nm.length) line om])).set o2 (.cells 36 4 [tokRow zTk])) ?_ ?_
        · refine AWP.cond_dec rfl (fun hw => ?_) (fun hw => AWP.skip ?_)
          · rw [if_pos hw]
            repeat (first | refine nl ?_ | refine rg ?_ | refine sm rfl ?_)
            exact ⟨(tl5 rfl rfl rfl rfl rfl), .refl _⟩
          · rw [if_neg hw]
            exact ⟨(tl5 rfl rfl rfl rfl rfl), .refl _⟩
        · repeat (refine AWP.seq ?_)
          refine AWP.draw rfl 8 8 (fun _ _ => False) rfl ?_
          repeat (first | refine ds rfl rfl ?_ | refine dq rfl rfl rfl (fun st1 hle => fa rfl rfl (nl ⟨_, rfl, rfl, rfl⟩)) ?_ | refine dq rfl rfl rfl (fun st1 hle => lc rfl rfl (hle.obj _ _ (by assumption)) rfl rfl (nl ⟨_, rfl, rfl, rfl⟩)) ?_ | refine dq rfl rfl rfl (fun st1 hle => ssh rfl rfl rfl (by omega) (nl ⟨_, rfl, rfl, rfl⟩)) ?_)
          refine dn ⟨fun _ => ?_, fun h => absurd h (by decide)⟩
          rw [htk]
          refine bds (cs := tokRow ⟨if nm ∈ words then 3 else 1, line, nm, 0⟩) rfl rfl rfl rfl ?_
          refine soV rfl rfl rfl rfl rfl rfl ?_
          repeat (first | refine nl ?_ | refine sm rfl ?_)
          exact AWP.ret (rets (resCW rfl (St.obj_set _ _ _) rfl rfl rfl rfl) (.refl _) (StLe.new (hn2' _) (.refl _)) ⟨rfl, rfl⟩)
    · have hcn : isNP c = false := by
        cases hl : isNP c with
        | false => rfl
        | true => exact absurd (Int.ofNat_lt.2 (hnt.2 hl)) h
      have hcl : isLet c = false := by
        simp only [isNP, Bool.or_eq_false_iff] at hcn
        exact hcn.1
      rw [hcl, cond_false, hcd, cond_false] at hone
      refine AWP.weaken (tl3 (i0 := 4) (i1 := 2) (i2 := 0) rfl rfl rfl) (.refl _) ?_
      repeat (refine AWP.seq ?_)
      refine rg ?_
      refine leW (row := signRow) (rows := [signRow]) (i := 0) (s := 24) rfl rfl (congrArg (Option.map fun row : List AV => AV.eptr row.length [row] 0 0) hg) rfl rfl ?_
      repeat (first | refine nl ?_ | refine AWP.block ?_ | refine sm rfl ?_)
      refine AWP.loop (α := Nat) (fun i => [(62, .int .i64 (i : Int)), (61, .agg signRow), (4, .str (s.drop pos)), (2, .cptr o2 4 0 0), (0, .cptr os 4 0 0)]) (fun _ => (st.set os (.cells 52 4 [scanRow s pos line om])).set o2 (.cells 36 4 [tokRow zTk]))
        (fun i => i ≤ 24 ∧ ∀ j, j < i → ∀ g', allSigns[j]? = some g' → ¬ (s.drop pos).take g'.length = g') (fun i => 24 - i) 0 ⟨Nat.zero_le _, fun j hj => by omega⟩ (tl5 rfl rfl rfl rfl rfl) (.refl _) ?_
      rintro i ⟨hi, hno⟩
      repeat (first | refine nl ?_ | refine AWP.seq ?_ | refine rg ?_ | refine sm rfl ?_)
      refine AWP.cond_dec rfl (fun h => AWP.skip ?_) (fun h => AWP.exit (blk_hit ?_))
      · have hi' : i < 24 := by have : (i : Int) < 24 := h; omega
        have hil : i < allSigns.length := hi'
        have hgi : allSigns[i]? = some allSigns[i] := List.getElem?_eq_getElem hil
        have hlen : allSigns[i].length ≤ 2 ∧ allSigns[i] ≠ [] := (show ∀ g ∈ allSigns, g.length ≤ 2 ∧ g ≠ [] by decide) _ (List.getElem_mem hil)
        have hrow : signRow[i * 1]? = some (.str allSigns[i]) := by simp [signRow, hil]
        generalize allSigns[i] = sg at hgi hlen hrow
        refine AWP.weaken (tl5 (i0 := 62) (i1 := 61) (i2 := 4) (i3 := 2) (i4 := 0) rfl rfl rfl rfl rfl) (.refl _) ?_
        repeat (first | refine AWP.seq ?_ | refine AWP.block ?_)
        refine rg ?_
        refine ixg rfl rfl rfl rfl rfl hi' hrow ?_
        repeat (first | refine nl ?_ | refine AWP.seq ?_ | refine rg ?_ | refine sm rfl ?_)
        refine cle rfl rfl (hasPrefix_ok (s.drop pos) sg _) ?_
        repeat (refine nl ?_)
        refine AWP.cond_dec rfl (fun hm => ?_) (fun hm => AWP.skip ?_)
        · have hsg := sign_at hgi hno hm
          rw [hsg, if_neg hlen.2] at hone
          rw [hone]
          have hle : sg.length ≤ s.length - pos := by
            have := congrArg List.length hm
            rw [List.length_take, hdl] at this
            omega
          have hos1 := hos (.cells 52 4 [scanRow s pos line om]) (.cells 36 4 [tokRow zTk])
          repeat (first | refine AWP.seq ?_ | refine rg ?_ | refine sm rfl ?_ | refine fa rfl rfl ?_ | refine lns rfl rfl ?_ | refine lc rfl rfl (by assumption) rfl rfl ?_ | refine adn rfl rfl rfl (by omega) ?_)
          refine so (rows' := [scanRow s (pos + sg.length) line om]) rfl rfl rfl (hos _ _) rfl rfl rfl rfl rfl ?_
          rw [St.set_inner hne]
          have hos2 := hos (.cells 52 4 [scanRow s (pos + sg.length) line om]) (.cells 36 4 [tokRow zTk])
          repeat (first | refine nl ?_ | refine AWP.seq ?_ | refine rg ?_ | refine sm rfl ?_ | refine fa rfl rfl ?_ | refine lc rfl rfl (by assumption) rfl rfl ?_)
          refine bds (cs := tokRow ⟨4, line, sg, 0⟩) rfl rfl rfl rfl ?_
          refine soV rfl rfl rfl rfl rfl rfl ?_
          repeat (first | refine nl ?_ | refine sm rfl ?_)
          exact AWP.ret (rets (resCW rfl (St.obj_set _ _ _) rfl rfl rfl rfl) (.refl _) (StLe.new (hn2' _) (.refl _)) ⟨rfl, rfl⟩)
        · repeat (first | refine nl ?_ | refine rg ?_ | refine sm rfl ?_ | refine inc rfl rfl rfl (by omega) ?_)
          refine ⟨i + 1, ⟨hi', fun j hj g' hg' => ?_⟩, by omega, (tl5 rfl rfl rfl rfl rfl), .refl _⟩
          rcases Nat.lt_or_ge j i with h1 | h1
          · exact hno j h1 g' hg'
          · have : j = i := by omega
            subst this
            rw [hgi] at hg'
            cases hg'
            exact hm
      · have hi' : i = 24 := by have : ¬ (i : Int) < 24 := h; omega
        subst hi'
        rw [sign_none hno, if_pos rfl] at hone
        rw [hone]
        repeat (refine AWP.seq ?_)
        refine rg ?_
        refine bds (cs := tokRow zTk) rfl rfl rfl rfl ?_
        refine soV rfl rfl rfl rfl rfl rfl ?_
        repeat (first | refine nl ?_ | refine sm rfl ?_)
        exact AWP.ret (rets (resCW rfl (St.obj_set _ _ _) rfl rfl rfl rfl) (.refl _) (StLe.new ho2 (.refl _)) ⟨rfl, rfl⟩)
end Go.Proofs
/- The walk of lexer.Scan. No conditions: definitions and lemmas only. -/
namespace Go.Proofs
open Go.AM

def wordRow : List AV := words.map .str

theorem slook_supd (k k' : List UInt8) (v : AV) : ∀ m, slook k (supd k' v m) = if k = k' then some v else slook k m
  | [] => by simp [supd, slook]
  | (a, b) :: m => by
    have ih := slook_supd k k' v m
    rw [supd]
    by_cases h1 : k' = a
    · subst h1
      rw [if_pos rfl, slook, slook]
      by_cases h2 : k = k' <;> simp [h2]
    · rw [if_neg h1, slook, slook, ih]
      by_cases h2 : k = a
      · subst h2
        have : ¬ k = k' := fun e => h1 e.symm
        simp [this]
      · simp [h2]

def wmap (l : List (List UInt8)) : List (List UInt8 × AV) := l.foldl (fun m w => supd w (.bool true) m) []

theorem wmap_snoc (l : List (List UInt8)) (w : List UInt8) : wmap (l ++ [w]) = supd w (.bool true) (wmap l) := by simp [wmap]

theorem wmap_look (nm : List UInt8) : ∀ (n : Nat) (l : List (List UInt8)), l.length = n → slook nm (wmap l) = if nm ∈ l then some (.bool true) else none
  | 0, l, h => by
    have : l = [] := List.eq_nil_of_length_eq_zero h
    subst this
    rfl
  | n + 1, l, h => by
    obtain ⟨l', c, rfl⟩ : ∃ l' c, l = l' ++ [c] := ⟨l.dropLast, l.getLast (by rintro rfl; simp at h), (List.dropLast_concat_getLast _).symm⟩
    rw [wmap_snoc, slook_supd, wmap_look nm n l' (by simpa using h)]
    by_cases h1 : nm = c
    · simp [h1]
    · simp [h1]

theorem WMap.words : WMap (wmap words) := ⟨fun nm => wmap_look nm 12 _ rfl⟩

theorem skip_sum : ∀ (cm : Bool) (x : List UInt8) (l : Nat), (skip cm x l).2 + (skip cm x l).1.length ≤ l + x.length
  | cm, [], l => by simp [skip]
  | cm, c :: r, l => by
    have pass : ∀ cm' l', l' ≤ l + 1 → (skip cm' r l').2 + (skip cm' r l').1.length ≤ l + (c :: r).length := by
      intro cm' l' h2
      have := skip_sum cm' r l'
      simp only [List.length_cons]
      omega
    unfold skip
    split
    · exact pass _ _ (by omega)
    · cases cm
      · rw [cond_false]
        split
        · exact pass _ _ (by omega)
        · split
          · exact pass _ _ (by omega)
          · exact Nat.le_refl _
      · exact pass _ _ (by omega)

theorem skip_tail (s : List UInt8) (line : Nat) : s.drop (s.length - (skip false s line).1.length) = (skip false s line).1 := by
  obtain ⟨q1, q2, q3, k, q4⟩ := skip_le false s line
  have hl := congrArg List.length q4
  rw [List.length_drop] at hl
  rcases Nat.lt_or_ge k s.length with hk | hk
  · rw [show s.length - (skip false s line).1.length = k by omega, q4]
  · have : (skip false s line).1 = [] := by rw [q4, List.drop_eq_nil_of_le hk]
    rw [this, List.length_nil, Nat.sub_zero, List.drop_length]

theorem one_err {s : List UInt8} {line e : Nat} (h : one s line = .error e) : e = 5 ∨ e = 6 := by
  unfold one at h
  split at h
  · cases h; exact .inr rfl
  · rename_i c r
    cases hl : isLet c
    · cases hd : isDig c
      · simp only [hl, hd, cond_false] at h
        split at h
        · cases h; exact .inr rfl
        · cases h
      · simp only [hl, hd, cond_false, cond_true] at h
        split at h
        · cases h; exact .inl rfl
        · split at h
          · cases h; exact .inr rfl
          · cases h
    · simp only [hl, cond_true] at h
      split at h
      · cases h; exact .inl rfl
      · cases h

theorem sign_le (s : List UInt8) : (sign s).length ≤ s.length := by
  unfold sign
  split
  · exact List.length_take_le' ..
  · split
    · split
      · simp
      · simp
    · simp

theorem one_ok {s : List UInt8} {line m : Nat} {t : Tk} (h : one s line = .ok (t, m)) : 1 ≤ m ∧ m ≤ s.length ∧ t.line = line := by
  unfold one at h
  split at h
  · cases h
  · rename_i c r
    have hnp : isLet c = true → isNP c = true := fun h => by simp [isNP, h]
    cases hl : isLet c
    · cases hd : isDig c
      · simp only [hl, hd, cond_false] at h
        split at h
        · cases h
        · rename_i hs
          cases h
          exact ⟨by have := List.length_pos_iff.2 hs; omega, sign_le _, rfl⟩
      · simp only [hl, hd, cond_false, cond_true] at h
        split at h
        · cases h
        · split at h
          · cases h
          · cases h
            exact ⟨by simp [hd], (List.takeWhile_prefix isDig).length_le, rfl⟩
    · simp only [hl, cond_true] at h
      split at h
      · cases h
      · cases h
        exact ⟨by simp [hnp hl], (List.takeWhile_prefix isNP).length_le, rfl⟩

set_option maxHeartbeats 8000000 in
theorem scan_ok (s : List UInt8) (st : St) (hg1 : st.row 1 = some signRow) (hg0 : st.row 0 = some wordRow) :
    ACalls Tryd.prog 15 [.str s] st (fun v st' => v = scanV (scan s) ∧ st' = st) (fun _ _ => False) := by
  refine ACalls.ofBody Tryd.func15 rfl Tryd.ntmps15 rfl ?_
  repeat (first | refine nl ?_ | refine AWP.seq ?_ | refine rg ?_ | refine sm rfl ?_ | refine lns rfl rfl ?_)
  refine AWP.cond_dec rfl (fun h => ?_) (fun h => AWP.skip ?_)
  · have h' : 4000 < s.length := by have : (4000 : Int) < (s.length : Int) := h; omega
    repeat (first | refine nl ?_ | refine AWP.seq ?_ | refine rg ?_ | refine sm rfl ?_)
    refine AWP.ret (rets rfl (Le.tri (.nilShared 0 4) (.refl _) (.refl _)) (.refl _) ⟨?_, rfl⟩)
    rw [scan, if_pos h']
    rfl
  · have h' : s.length ≤ 4000 := by have : ¬ (4000 : Int) < (s.length : Int) := h; omega
    have hscan : scan s = scanL (s.length + 1) (skip false s 1).1 (skip false s 1).2 [] := by rw [scan, if_neg (by omega)]
    repeat (refine AWP.seq ?_)
    refine rg ?_
    refine sm rfl ?_
    refine mkm rfl fun om hom => ?_
    refine bds (cs := scanRow s 0 1 om) rfl rfl rfl rfl ?_
    refine al rfl rfl fun os hos => ?_
    have hne := St.new_ne hos
    have hns := St.new_old hos
    refine soV rfl rfl rfl rfl rfl rfl ?_
    repeat (first | refine nl ?_ | refine AWP.seq ?_)
    refine rg ?_
    refine leW (row := wordRow) (rows := [wordRow]) (i := 0) (s := 12) rfl rfl (congrArg (Option.map fun row : List AV => AV.eptr row.length [row] 0 0) hg0) rfl rfl ?_
    repeat (first | refine nl ?_ | refine AWP.block ?_ | refine sm rfl ?_)
    refine AWP.loop (α := Nat) (fun i => [(18, .int .i64 (i : Int)), (17, .agg wordRow), (5, .cptr os 4 0 0), (0, .str s)]) (fun i => (st.set om (.smap (wmap (words.take i)))).set os (.cells 52 4 [scanRow s 0 1 om])) (fun i => i ≤ 12) (fun i => 12 - i) 0 (Nat.zero_le _) (tl4 rfl rfl rfl rfl) (.refl _) ?_
    intro i hi
    repeat (first | refine nl ?_ | refine AWP.seq ?_ | refine rg ?_ | refine sm rfl ?_)
    refine AWP.cond_dec rfl (fun h => AWP.skip ?_) (fun h => AWP.exit (blk_hit ?_))
    · have hi' : i < 12 := by have : (i : Int) < 12 := h; omega
      have hil : i < words.length := hi'
      have hrow : wordRow[i * 1]? = some (.str words[i]) := by simp [wordRow, hil]
      have hsn : wmap (words.take (i + 1)) = supd words[i] (.bool true) (wmap (words.take i)) := by
        rw [List.take_add_one, List.getElem?_eq_getElem hil, Option.toList_some, wmap_snoc]
      generalize words[i] = w at hrow hsn
      repeat (first | refine AWP.seq ?_ | refine rg ?_ | refine AWP.block ?_)
      refine ixg rfl rfl rfl rfl rfl hi' hrow ?_
      repeat (first | refine nl ?_ | refine rg ?_ | refine sm rfl ?_ | refine fa rfl rfl ?_ | refine lc rfl rfl (St.obj_set _ _ _) rfl rfl ?_)
      refine mup rfl rfl rfl rfl (St.obj_under hne _ _) ?_
      rw [St.set_inner hne]
      repeat (first | refine nl ?_ | refine rg ?_ | refine sm rfl ?_ | refine inc rfl rfl rfl (by omega) ?_)
      refine ⟨i + 1, hi', by omega, (tl4 rfl rfl rfl rfl), ?_⟩
      rw [hsn]
      exact .refl _
    · have hi' : i = 12 := by have : ¬ (i : Int) < 12 := h; omega
      subst hi'
      rw [show words.take 12 = words from rfl]
      refine AWP.weaken (tl2 (i0 := 5) (i1 := 0) rfl rfl) (.refl _) ?_
      repeat (refine AWP.seq ?_)
      refine rg ?_
      repeat (refine sm rfl ?_)
      repeat (first | refine nl ?_ | refine AWP.seq ?_)
      refine AWP.nilTok 8 36 4 rfl fun tk htk => ?_
      have hst : ∀ (tk : Nat) (c : AObj), ((st.set om (.smap (wmap words))).set os c).addTok tk = ((st.set om (.smap (wmap words))).addTok tk).set os c := fun _ _ => rfl
      rw [hst]
      skip
      refine rg ?_
      refine cl rfl rfl (skip_ok s (by omega) 0 1 om os (Nat.zero_le _) (by omega) _) fun _ st' hst' => ?_
      subst hst'
      rw [List.drop_zero]
      obtain ⟨q1, q2, q3, q4⟩ := skip_le false s 1
      have q6 := skip_sum false s 1
      repeat (first | refine nl ?_ | refine AWP.block ?_)
      refine AWP.loop (α := Nat × Nat × Nat × List Tk × Nat)
        (fun x => [(8, .view 4 (x.2.2.2.1.map tokRow) (.own x.2.2.2.2 36)), (5, .cptr os 4 0 0), (0, .str s)])
        (fun x => ((st.set om (.smap (wmap words))).addTok x.2.2.2.2).set os (.cells 52 4 [scanRow s x.2.1 x.2.2.1 om]))
        (fun x => x.2.1 ≤ s.length ∧ x.2.2.1 ≤ x.2.1 + 1 ∧ scan s = scanL x.1 (s.drop x.2.1) x.2.2.1 x.2.2.2.1 ∧ s.length - x.2.1 < x.1 ∧ x.2.2.2.1.length ≤ 2000 ∧ st.tok x.2.2.2.2 = false) (fun x => x.1)
        (s.length + 1, s.length - (skip false s 1).1.length, (skip false s 1).2, [], tk) ⟨by simp only; omega, by simp only; omega, ?_, by simp only; omega, by simp, htk⟩ (tl3 rfl rfl rfl) (.refl _) ?_
      · simp only
        rw [hscan]
        congr 1
        exact (skip_tail s 1).symm
      · rintro ⟨fuel, pos, line, out, tk⟩ ⟨h1, h2, h3, h4, h5, h6⟩
        simp only at h1 h2 h3 h4 h5 h6
        repeat (first | refine nl ?_ | refine AWP.seq ?_ | refine rg ?_ | refine sm rfl ?_ | refine fa rfl rfl ?_ | refine lns rfl rfl ?_ | refine lc rfl rfl (St.obj_set _ _ _) rfl rfl ?_)
        refine AWP.cond_dec rfl (fun h => AWP.skip ?_) (fun h => AWP.exit (blk_hit ?_))
        · have hlt : pos < s.length := by have : (pos : Int) < (s.length : Int) := h; omega
          obtain ⟨fuel, rfl⟩ : ∃ k, fuel = k + 1 := ⟨fuel - 1, by omega⟩
          have hd : s.drop pos = s[pos] :: s.drop (pos + 1) := List.drop_eq_getElem_cons hlt
          have hstep : scan s = match one (s.drop pos) line with
              | .error e => ([], line, e)
              | .ok (t, m) => if 2000 ≤ out.length then ([], line, 5) else scanL fuel (skip false ((s.drop pos).drop m) line).1 (skip false ((s.drop pos).drop m) line).2 (out ++ [t]) := by
            rw [h3, hd]
            rfl
          clear h3
          refine AWP.weaken (tl3 (i0 := 8) (i1 := 5) (i2 := 0) rfl rfl rfl) (.refl _) ?_
          repeat (first | refine AWP.seq ?_ | refine AWP.block ?_)
          refine rg ?_
          refine cl rfl rfl (token_ok s (by omega) pos line om os hlt (wmap words) WMap.words ((st.set om (.smap (wmap words))).addTok tk) (St.obj_set _ _ _) (Ne.symm hne) hg1) fun v st' ⟨hv, hst'⟩ => ?_
          subst hv
          subst hst'
          cases ho : one (s.drop pos) line with
          | error e =>
            rw [ho] at hstep
            refine AOps.weaken (T' := [(33, tkE zTk e), (8, .view 4 (out.map tokRow) (.own tk 36)), (5, .cptr os 4 0 0), (0, .str s)]) (tl4 rfl rfl rfl rfl) (.refl _) ?_
            repeat (refine sm rfl ?_)
            refine al rfl rfl fun o9 ho9 => ?_
            refine soN 9 rfl rfl rfl rfl rfl rfl ho9 ?_
            have he := one_err ho
            have he0 : (AV.bool (decide ((e : Int) = 0))) = .bool false := by
              have : ¬ e = 0 := by omega
              simp [this]
            have he1 : (AV.bool (decide ((e : Int) ≠ 0))) = .bool true := by
              have : ¬ e = 0 := by omega
              simp [this]
            repeat (first | refine nl ?_ | refine AWP.seq ?_ | refine rg ?_ | refine sm rfl ?_)
            rw [he0]
            repeat (first | refine nl ?_ | refine sm rfl ?_ | refine uw rfl ?_)
            refine AWP.cond_false rfl (AWP.skip ?_)
            repeat (first | refine nl ?_ | refine AWP.seq ?_ | refine rg ?_ | refine sm rfl ?_)
            rw [he1]
            skip
            refine AWP.cond_true rfl ?_
            repeat (refine AWP.seq ?_)
            refine AWP.draw rfl 5 5 (fun _ _ => False) rfl ?_
            repeat (first | refine ds rfl rfl ?_ | refine dq rfl rfl rfl (fun st1 hle => fa rfl rfl (nl ⟨_, rfl, rfl, rfl⟩)) ?_ | refine dq rfl rfl rfl (fun st1 hle => lc rfl rfl (hle.obj _ _ (St.obj_set _ _ _)) rfl rfl (nl ⟨_, rfl, rfl, rfl⟩)) ?_)
            refine dn ⟨fun _ => ?_, fun h => absurd h (by decide)⟩
            repeat (first | refine nl ?_ | refine sm rfl ?_)
            refine AWP.ret (rets rfl (Le.tri (.nilShared 0 4) (.refl _) (.refl _)) (StLe.new (show ((st.set om (.smap (wmap words))).addTok tk).obj os = none from (St.obj_set_ne hne).trans hns) (StLe.new (st := st.addTok tk) hom (StLe.addTok _ (.refl _)))) ⟨?_, rfl⟩)
            rw [hstep]
            rfl
          | ok p =>
            obtain ⟨t, m⟩ := p
            rw [ho] at hstep
            simp only at hstep
            obtain ⟨m1, m2, m3⟩ := one_ok ho
            rw [List.length_drop] at m2
            refine AOps.weaken (T' := [(33, tkE t 0), (8, .view 4 (out.map tokRow) (.own tk 36)), (5, .cptr os 4 0 0), (0, .str s)]) (tl4 rfl rfl rfl rfl) (.refl _) ?_
            repeat (refine sm rfl ?_)
            refine al rfl rfl fun o9 ho9 => ?_
            refine soN 9 rfl rfl rfl rfl rfl rfl ho9 ?_
            repeat (first | refine nl ?_ | refine AWP.seq ?_ | refine rg ?_ | refine sm rfl ?_ | refine lnv rfl rfl ?_)
            refine AWP.cond_dec rfl (fun h => ?_) (fun h => AWP.skip ?_)
            · have hge : 2000 ≤ out.length := by
                rw [List.length_map] at h
                omega
              rw [if_pos hge] at hstep
              repeat (first | refine nl ?_ | refine AWP.seq ?_ | refine rg ?_ | refine sm rfl ?_)
              refine AWP.cond_true rfl ?_
              repeat (refine AWP.seq ?_)
              refine AWP.draw rfl 5 5 (fun _ _ => False) rfl ?_
              repeat (first | refine ds rfl rfl ?_ | refine dq rfl rfl rfl (fun st1 hle => fa rfl rfl (nl ⟨_, rfl, rfl, rfl⟩)) ?_ | refine dq rfl rfl rfl (fun st1 hle => lc rfl rfl (hle.obj _ _ (St.obj_set _ _ _)) rfl rfl (nl ⟨_, rfl, rfl, rfl⟩)) ?_)
              refine dn ⟨fun _ => ?_, fun h => absurd h (by decide)⟩
              repeat (first | refine nl ?_ | refine sm rfl ?_)
              refine AWP.ret (rets rfl (Le.tri (.nilShared 0 4) (.refl _) (.refl _)) (StLe.new (show ((st.set om (.smap (wmap words))).addTok tk).obj os = none from (St.obj_set_ne hne).trans hns) (StLe.new (st := st.addTok tk) hom (StLe.addTok _ (.refl _)))) ⟨?_, rfl⟩)
              rw [hstep]
              rfl
            · have hge : ¬ 2000 ≤ out.length := by
                rw [List.length_map] at h
                omega
              rw [if_neg hge] at hstep
              repeat (first | refine nl ?_ | refine AWP.seq ?_ | refine rg ?_ | refine sm rfl ?_)
              refine AWP.cond_false rfl (AWP.skip ?_)
              repeat (first | refine rg ?_ | refine sm rfl ?_ | refine leW rfl rfl rfl rfl rfl ?_ | refine bs1 rfl rfl rfl rfl rfl rfl ?_)
              refine ap rfl rfl rfl (St.tok_addTok _ _) rfl (by simp only [List.length_cons, List.length_nil, List.length_map]; omega) (by simp only [List.length_cons, List.length_nil, List.length_map, maxLen]; omega) fun tk' htk' => ?_
              have hm : out.map tokRow ++ [(AV.agg (AV.agg (tokRow t)).cells).cells] = (out ++ [t]).map tokRow := by rw [List.map_append]; rfl
              rw [hm]
              have hst2 : ∀ (c : AObj), ((((st.set om (.smap (wmap words))).addTok tk).set os c).untok tk).addTok tk' = ((((st.set om (.smap (wmap words))).addTok tk).untok tk).addTok tk').set os c := fun _ => rfl
              rw [hst2]
              have htk2 : st.tok tk' = false := St.tok_of_add (st := st) htk'
              repeat (first | refine nl ?_ | refine rg ?_ | refine sm rfl ?_)
              refine AOps.weaken (tl3 (i0 := 8) (i1 := 5) (i2 := 0) rfl rfl rfl) (.refl _) ?_
              have hdd : (s.drop pos).drop m = s.drop (pos + m) := List.drop_drop ..
              rw [hdd] at hstep
              refine cl rfl rfl (skip_ok s (by omega) (pos + m) line om os (by omega) (by omega) _) fun _ st' hst' => ?_
              subst hst'
              obtain ⟨w1, w2, w3, w4⟩ := skip_le false (s.drop (pos + m)) line
              have w6 := skip_sum false (s.drop (pos + m)) line
              have w7 := skip_tail (s.drop (pos + m)) line
              rw [List.length_drop] at w1 w2 w6 w7
              rw [List.drop_drop] at w7
              generalize skip false (s.drop (pos + m)) line = sk at w1 w2 w3 w6 w7 hstep ⊢
              repeat (refine nl ?_)
              refine ⟨(fuel, s.length - sk.1.length, sk.2, out ++ [t], tk'), ⟨by simp only; omega, by simp only; omega, ?_, by simp only; omega, by simp only [List.length_append, List.length_cons, List.length_nil]; omega, htk2⟩, by simp only; omega, (tl3 rfl rfl rfl), ?_⟩
              · simp only
                rw [hstep]
                have w8 : s.length - sk.1.length = pos + m + (s.length - (pos + m) - sk.1.length) := by omega
                rw [w8, w7]
              · exact StLe.set _ _ (StLe.reTok (st := st.set om (.smap (wmap words))) h6 tk')
        · have hlt : pos = s.length := by have : ¬ (pos : Int) < (s.length : Int) := h; omega
          subst hlt
          obtain ⟨fuel, rfl⟩ : ∃ k, fuel = k + 1 := ⟨fuel - 1, by omega⟩
          rw [List.drop_length] at h3
          have hstep : scan s = (out ++ [⟨0, line, [], 0⟩], 0, 0) := h3
          refine AWP.weaken (T' := [(8, .view 4 (out.map tokRow) (.own tk 36)), (5, .cptr os 4 0 0), (0, .str s)]) (st' := ((st.set om (.smap (wmap words))).addTok tk).set os (.cells 52 4 [scanRow s s.length line om])) (tl3 rfl rfl rfl) (.refl _) ?_
          repeat (first | refine AWP.seq ?_ | refine rg ?_ | refine sm rfl ?_ | refine fa rfl rfl ?_ | refine lc rfl rfl (St.obj_set _ _ _) rfl rfl ?_)
          refine bds (cs := tokRow ⟨0, line, [], 0⟩) rfl rfl rfl rfl ?_
          repeat (refine bs1 rfl rfl rfl rfl rfl rfl ?_)
          refine ap rfl rfl rfl (St.tok_addTok _ _) rfl (by simp only [List.length_cons, List.length_nil, List.length_map]; omega) (by simp only [List.length_cons, List.length_nil, List.length_map, maxLen]; omega) fun tk' htk' => ?_
          have hm : out.map tokRow ++ [(AV.agg (tokRow ⟨0, line, [], 0⟩)).cells] = (out ++ [(⟨0, line, [], 0⟩ : Tk)]).map tokRow := by rw [List.map_append]; rfl
          rw [hm]
          repeat (first | refine nl ?_ | refine sm rfl ?_)
          refine AWP.ret (rets rfl (Le.tri (.shared _ _ _) (.refl _) (.refl _)) (StLe.new (st := (((st.set om (.smap (wmap words))).addTok tk).untok tk).addTok tk') (show ((((st.set om (.smap (wmap words))).addTok tk).untok tk).addTok tk').obj os = none from (St.obj_set_ne hne).trans hns) (StLe.new (st := ((st.addTok tk).untok tk).addTok tk') hom ((StLe.reTok h6 tk').trans (StLe.addTok _ (.refl _))))) ⟨?_, rfl⟩)
          rw [hstep]
          rfl
end Go.Proofs
/- What the laws of this seat share: the two laid tables, the arguments' kinds. No conditions: lemmas only. -/
namespace Go.Proofs.YtmpifmapdmhgkaaDoor
open Go.ChangeShapes Go.WideShapes Go.ChangeAt Go.RowKit Go.AM

theorem own : ownKnob Tryd.prog.godebug = none := by kernel_rfl
theorem laidOut : laidOutB Tryd.prog = true := by kernel_rfl
def laidAll : List (String × DataW Unit) := [("debugger/lexer.words", Rows.laid_debugger_lexer_words), ("debugger/lexer.signs", Rows.laid_debugger_lexer_signs)]

theorem kinds : ∀ t ∈ [3, 9, 22, 53, 85], Go.AM.kindOk Tryd.prog [3, 9, 22, 53, 85] t = true := by
  intro t ht
  simp only [List.mem_cons, List.not_mem_nil, or_false] at ht
  rcases ht with rfl | rfl | rfl | rfl | rfl <;> kernel_rfl

theorem tables {W : World} (h : laidMetH Tryd.prog laidAll W) : ∀ gi row, (gi, row) ∈ [(0, wordRow), (1, signRow)] → GlobAt (G0 W) W gi row := by
  have h' : laidMet Tryd.prog laidAll W := h
  intro gi row hm
  simp only [List.mem_cons, List.not_mem_nil, or_false] at hm
  rcases hm with hm | hm
  · cases hm
    exact laid_row kinds h' (n := "debugger/lexer.words") (t := 53) (List.mem_cons_self ..) rfl (by kernel_rfl) (by kernel_rfl) (by decide) (by decide)
  · cases hm
    exact laid_row kinds h' (n := "debugger/lexer.signs") (t := 85) (List.mem_cons_of_mem _ (List.mem_cons_self ..)) rfl (by kernel_rfl) (by kernel_rfl) (by decide) (by decide)
end Go.Proofs.YtmpifmapdmhgkaaDoor
/- The walks of the law's small helpers: known, Mod, repeat. No conditions: definitions and lemmas only. -/
namespace Go.Proofs
open Go.AM

instance tokFlat : FlatT Tryd.prog 36 [.kI .i64, .kI .i64, .kS, .kI .i64] := ⟨by kernel_rfl, by kernel_rfl, by kernel_rfl⟩

theorem known_scan : scanV (scan [120, 49, 32, 60, 61, 32, 48, 55]) = .tuple [.view 4 [[.int .i64 1, .int .i64 1, .str [120, 49], .int .i64 0], [.int .i64 4, .int .i64 1, .str [60, 61], .int .i64 0], [.int .i64 2, .int .i64 1, .str [], .int .i64 7], [.int .i64 0, .int .i64 1, .str [], .int .i64 0]] .shared, .int .i64 0, .int .i64 0] := by
  kernel_rfl

theorem known_ok (st : St) (hg1 : st.row 1 = some signRow) (hg0 : st.row 0 = some wordRow) :
    ACalls Tryd.prog 13 [] st (fun v st' => v = .bool true ∧ st' = st) (fun _ _ => False) := by
  refine ACalls.ofBody Tryd.func13 rfl Tryd.ntmps13 rfl ?_
  repeat (first | refine nl ?_ | refine AWP.seq ?_ | refine rg ?_ | refine sm rfl ?_)
  refine cl rfl rfl (scan_ok _ _ hg1 hg0) fun v st' ⟨hv, hst⟩ => ?_
  subst hst
  rw [known_scan] at hv
  subst hv
  repeat (first | refine nl ?_ | refine AWP.seq ?_ | refine rg ?_ | refine sm rfl ?_ | refine leW rfl rfl rfl rfl rfl ?_ | refine lnv rfl rfl ?_ | refine ix (m := 0) rfl rfl rfl rfl (of_decide_eq_true rfl) ?_)
  refine bds (cs := [.int .i64 1, .int .i64 1, .str [120, 49], .int .i64 0]) rfl rfl rfl rfl ?_
  repeat (first | refine nl ?_ | refine sm rfl ?_ | refine fa rfl rfl ?_ | refine le rfl rfl rfl rfl ?_ | refine ix (m := 1) rfl rfl rfl rfl (of_decide_eq_true rfl) ?_ | refine ix (m := 2) rfl rfl rfl rfl (of_decide_eq_true rfl) ?_ | refine ix (m := 3) rfl rfl rfl rfl (of_decide_eq_true rfl) ?_ | refine eqA rfl rfl rfl rfl rfl ?_)
  refine AWP.ret (rets rfl (.refl _) (.refl _) ⟨?_, rfl⟩)
  kernel_rfl

theorem tmod_gt (n k : Int) (hk : 0 < k) : -k < n.tmod k := by
  have := Int.tmod_lt_of_pos (-n) hk
  rw [Int.neg_tmod] at this
  omega

theorem mod_rem (n k : Int) (hk : 0 < k) : n % k = if n.tmod k < 0 then n.tmod k + k else n.tmod k := by
  have h1 : n % k = n.tmod k % k := by
    conv => lhs; rw [← Int.tmod_add_mul_tdiv n k]
    rw [Int.add_mul_emod_self_left]
  have h2 := Int.tmod_lt_of_pos n hk
  have h3 := tmod_gt n k hk
  rw [h1]
  split
  · rw [← Int.add_emod_right, Int.emod_eq_of_lt (by omega) (by omega)]
  · exact Int.emod_eq_of_lt (by omega) (by omega)

theorem mod_ok (n k : Int) (hk : 0 < k) (hk2 : k ≤ 4611686018427387904) (st : St) : ACalls Tryd.prog 14 [.int .i64 n, .int .i64 k] st (fun v st' => v = .int .i64 (n % k) ∧ st' = st) (fun _ _ => False) := by
  refine ACalls.ofBody Tryd.func14 rfl Tryd.ntmps14 rfl ?_
  have hm := mod_rem n k hk
  repeat (first | refine nl ?_ | refine AWP.seq ?_ | refine rg ?_ | refine sm rfl ?_)
  refine rm rfl rfl rfl (by omega) ?_
  repeat (first | refine nl ?_ | refine AWP.seq ?_ | refine rg ?_ | refine sm rfl ?_)
  refine AWP.cond_dec rfl (fun h => ?_) (fun h => AWP.skip ?_)
  · rw [if_pos h] at hm
    have h3 := tmod_gt n k hk
    have h4 := Int.tmod_lt_of_pos n hk
    repeat (first | refine rg ?_ | refine sm rfl ?_)
    refine ad rfl rfl rfl (by omega) ?_
    repeat (first | refine nl ?_ | refine AWP.seq ?_ | refine rg ?_ | refine sm rfl ?_)
    refine AWP.ret (rets rfl (.refl _) (.refl _) ⟨?_, rfl⟩)
    rw [hm]
    rfl
  · rw [if_neg h] at hm
    repeat (first | refine nl ?_ | refine AWP.seq ?_ | refine rg ?_ | refine sm rfl ?_)
    refine AWP.ret (rets rfl (.refl _) (.refl _) ⟨?_, rfl⟩)
    rw [hm]
    rfl

end Go.Proofs
/- The walk of LexerLimits. No conditions: definitions and lemmas only. -/
namespace Go.Proofs
open Go.AM

end Go.Proofs
/- The lexer in plain Lean: texts joined, lines shifted. No program in sight. -/
namespace Go.Proofs

/-- The tokens before the end or the error, the line there, the error. -/
def lx : Nat → List UInt8 → Nat → List Tk × Nat × Nat
  | 0, _, _ => ([], 0, 0)
  | _ + 1, [], line => ([], line, 0)
  | k + 1, c :: r, line => match one (c :: r) line with
    | .error e => ([], line, e)
    | .ok (t, m) => (t :: (lx k (skip false ((c :: r).drop m) line).1 (skip false ((c :: r).drop m) line).2).1, (lx k (skip false ((c :: r).drop m) line).1 (skip false ((c :: r).drop m) line).2).2)

theorem lx_err {k : Nat} {s : List UInt8} {line e : Nat} (hs : s ≠ []) (h : one s line = .error e) : lx (k + 1) s line = ([], line, e) := by
  cases s with
  | nil => exact absurd rfl hs
  | cons c r => rw [lx, h]
theorem lx_ok {k : Nat} {s : List UInt8} {line m : Nat} {t : Tk} (hs : s ≠ []) (h : one s line = .ok (t, m)) :
    lx (k + 1) s line = (t :: (lx k (skip false (s.drop m) line).1 (skip false (s.drop m) line).2).1, (lx k (skip false (s.drop m) line).1 (skip false (s.drop m) line).2).2) := by
  cases s with
  | nil => exact absurd rfl hs
  | cons c r => rw [lx, h]

theorem rest_lt {s : List UInt8} {line m : Nat} {t : Tk} (h : one s line = .ok (t, m)) (l : Nat) : (skip false (s.drop m) l).1.length < s.length := by
  obtain ⟨h1, h2, _⟩ := one_ok h
  have := (skip_le false (s.drop m) l).1
  rw [List.length_drop] at this
  omega

/-- Fuel enough is fuel enough. -/
theorem lx_fuel : ∀ (n : Nat) (s : List UInt8) (line k k' : Nat), s.length ≤ n → s.length < k → s.length < k' → lx k s line = lx k' s line
  | n, [], line, k + 1, k' + 1, _, _, _ => rfl
  | n + 1, c :: r, line, k + 1, k' + 1, hn, hk, hk' => by
    cases ho : one (c :: r) line with
    | error e => rw [lx_err (by simp) ho, lx_err (by simp) ho]
    | ok p =>
      obtain ⟨t, m⟩ := p
      have := rest_lt ho line
      rw [lx_ok (by simp) ho, lx_ok (by simp) ho, lx_fuel n _ _ k k' (by omega) (by omega) (by omega)]

def lex (s : List UInt8) (line : Nat) : List Tk × Nat × Nat := lx (s.length + 1) (skip false s line).1 (skip false s line).2

theorem skip_len (s : List UInt8) (line : Nat) : (skip false s line).1.length ≤ s.length := (skip_le false s line).1

theorem lex_fuel (s : List UInt8) (line k : Nat) (hk : (skip false s line).1.length < k) : lx k (skip false s line).1 (skip false s line).2 = lex s line := by
  have := skip_len s line
  exact lx_fuel _ _ _ _ _ (Nat.le_refl _) hk (by omega)

theorem lx_ok' {k : Nat} {s : List UInt8} {line m : Nat} {t : Tk} (hs : s ≠ []) (hk : s.length < k + 1) (h : one s line = .ok (t, m)) : lx (k + 1) s line = (t :: (lex (s.drop m) line).1, (lex (s.drop m) line).2) := by
  have := rest_lt h line
  rw [lx_ok hs h, lex_fuel _ _ _ (by omega)]

/-- What scanL answers, out of lx, where the limit is not met. -/
def fin (out : List Tk) (r : List Tk × Nat × Nat) : List Tk × Nat × Nat := if r.2.2 = 0 then (out ++ r.1 ++ [⟨0, r.2.1, [], 0⟩], 0, 0) else ([], r.2.1, r.2.2)

theorem scanL_lx : ∀ (k : Nat) (s : List UInt8) (line : Nat) (out : List Tk), s.length < k → out.length + (lx k s line).1.length ≤ 2000 → scanL k s line out = fin out (lx k s line)
  | k + 1, [], line, out, _, _ => by simp [scanL, lx, fin]
  | k + 1, c :: r, line, out, hk, hl => by
    cases ho : one (c :: r) line with
    | error e =>
      have he := one_err ho
      rw [lx_err (by simp) ho, scanL, ho]
      unfold fin
      rw [if_neg (by simp only; omega)]
    | ok p =>
      obtain ⟨t, m⟩ := p
      have h1 := rest_lt ho line
      rw [lx_ok (by simp) ho] at hl ⊢
      simp only [List.length_cons] at hl
      rw [scanL, ho]
      simp only
      rw [if_neg (by omega), scanL_lx k _ _ _ (by simp only [List.length_cons] at hk h1; omega) (by simp only [List.length_append, List.length_cons, List.length_nil]; omega)]
      unfold fin
      simp only [List.append_assoc, List.cons_append, List.nil_append]

theorem skip_cons (cm : Bool) (c : UInt8) (r : List UInt8) (l : Nat) : skip cm (c :: r) l = if c = 10 then skip false r (l + 1) else bif cm then skip true r l else if c = 32 ∨ c = 9 ∨ c = 13 then skip false r l else if c = 47 ∧ r.head? = some 47 then skip true r l else (c :: r, l) := rfl

end Go.Proofs
/- A constant's bytes: the mark behind the block. No conditions: lemmas only. -/
namespace Go.AM
open Go.RowKit (Below)
variable {P : Program} {n : Nat} {K : Post} {E : EPost} {T : Tmps} {st : St} {ops : Array Oper} {rest : List Oper}
variable {d : Tmp} {dd : Option Tmp} {x y z : Operand} {ty : TypeId} {pos : String} {es : Array Edge} {gd : Option (Nat × Bool)}

theorem freeze_other (w : World) (b off n k : Nat) (h : k ≠ b) : (w.freeze ⟨b, off, none⟩ n).heap[k]? = w.heap[k]? := by
  unfold World.freeze
  split
  · rfl
  · simp only [Array.getElem?_modify]
    rw [if_neg (fun e => h e.symm)]

theorem freeze_same {w : World} {b off n : Nat} {cur : Array Value} {e : TypeId} {fr : Nat × Nat} (hb : w.heap[b]? = some (.cells cur e fr)) : ∃ fr', (w.freeze ⟨b, off, none⟩ n).heap[b]? = some (.cells cur e fr') := by
  unfold World.freeze
  split
  · exact ⟨fr, hb⟩
  · obtain ⟨lo, hi⟩ := fr
    simp only [Array.getElem?_modify, if_true, hb, Option.map_some]
    exact ⟨_, rfl⟩

theorem freeze_size (w : World) (b off n : Nat) : (w.freeze ⟨b, off, none⟩ n).heap.size = w.heap.size := by
  unfold World.freeze
  split
  · rfl
  · simp

theorem freeze_rest (w : World) (b off n : Nat) : (w.freeze ⟨b, off, none⟩ n).os = w.os ∧ (w.freeze ⟨b, off, none⟩ n).tape = w.tape ∧ (w.freeze ⟨b, off, none⟩ n).output = w.output := by
  unfold World.freeze
  split <;> exact ⟨rfl, rfl, rfl⟩

theorem StLe.untok_add {tk : Nat} (h : st.tok tk = false) : StLe ((st.addTok tk).untok tk) st :=
  ⟨fun _ _ h => h, fun t ht => by
    simp only [St.addTok, St.untok]
    by_cases h2 : t = tk
    · subst h2; rw [h] at ht; cases ht
    · simp [h2, ht], rfl⟩

/-- A join that also knows something. -/
theorem midp {c c' : Code} (p : Prop) (T' : Tmps) (st' : St) (h : AWP P n c (fun T1 st1 => TLe T1 T' ∧ StLe st1 st' ∧ p) E T st) (k : p → AWP P n c' K E T' st') : AWP P n c (AWP P n c' K E) E T st :=
  AWP.mono h (fun _ _ ⟨h2, h3, h4⟩ => AWP.weaken h2 h3 (k h4)) (fun _ _ _ he => he)

/-- A block that is neither an object nor a token's gets its mark. -/
theorem Sim.mark {g : G} {w : World} (hs : Sim g w st) (b off n : Nat) (cur : Array Value) (e : TypeId) (fr : Nat × Nat) (hb : w.heap[b]? = some (.cells cur e fr)) (hbase : g.base ≤ b)
    (htoks : ∀ t b' r, st.tok t = true → g.tok t = some (some b', r) → b' ≠ b) (hobjs : ∀ o c b' m, st.obj o = some c → g.obj o = some (b', m) → b' ≠ b) : Ext g w g (w.freeze ⟨b, off, none⟩ n) ∧ Sim g (w.freeze ⟨b, off, none⟩ n) st := by
  have hoth : ∀ k, k ≠ b → (w.freeze ⟨b, off, none⟩ n).heap[k]? = w.heap[k]? := fun k hk => freeze_other w b off n k hk
  obtain ⟨fr', hb'⟩ := freeze_same (off := off) (n := n) hb
  have hsz := freeze_size w b off n
  obtain ⟨f1, f2, f3⟩ := freeze_rest w b off n
  have he : Ext g w g (w.freeze ⟨b, off, none⟩ n) := by
    refine ⟨rfl, Nat.le_refl _, fun _ _ h => h, fun b' i h => ?_, fun _ _ h => h, fun _ _ h => h, ⟨f1, f2, f3, by omega, fun j hj => hoth j (by omega)⟩⟩
    by_cases hbb : b' = b
    · subst hbb
      rw [cell_of_row _ b' i cur e fr' hb', cell_of_row w b' i cur e fr hb]
    · exact World.cell?_of_block (w := w) (hoth b' hbb)
  refine ⟨he, by rw [hsz]; exact hs.base, fun o c hc => ?_, hs.inj, fun t ht => ?_, hs.tobj, hs.tinj, fun b i h => by rw [hsz]; exact hs.immlt b i h, fun o b m h => by rw [hsz]; exact hs.objlt o b m h, fun t b r h => by rw [hsz]; exact hs.toklt t b r h, hs.fresh, fun gi row h => (hs.globs gi row h).ext he⟩
  · obtain ⟨b', m, h1, h2, h3, h4⟩ := hs.objs o c hc
    exact ⟨b', m, h1, h2, h3.mono he (hoth b' (hobjs o c b' m hc h1)), h4⟩
  · obtain ⟨⟨b', len, cap, e', size⟩, h1, h2⟩ := hs.toks t ht
    refine ⟨_, h1, ?_⟩
    cases b' with
    | none => exact h2
    | some b' =>
      obtain ⟨a1, a2, a3, a4, ⟨cur', a5, a6⟩, a7⟩ := h2
      exact ⟨a1, a2, a3, a4, ⟨cur', (hoth b' (htoks t b' _ ht h1)).trans a5, a6⟩, a7⟩

/-- The bytes of a constant. -/
theorem cvm {t e : TypeId} [hut : Und P t (.slice e)] [hue : Und P e (.int .u8)] {sz : Nat} {rows : List (List AV)} {tk : Nat} (hg : goes ops n T ⟨dd, .convert t t x, ty, pos, es, gd⟩ = some d)
    (hx : ev st T x = some (.view sz rows (.own tk e))) (htk : st.tok tk = true) (hne : rows ≠ [])
    (h : AOps P n ops rest K E ((d, .view sz rows .shared) :: T) (st.untok tk)) : AOps P n ops (⟨dd, .convert t t x, ty, pos, es, gd⟩ :: rest) K E T st := by
  refine AOps.stepAny hg fun g w a hs hk => ?_
  have h1 := ev_R hs hk hx
  generalize hux : a.eval x = ux at h1
  have hsu : Sim g w (st.untok tk) := hs.le (StLe.untok tk)
  cases h1 with
  | vnil => exact absurd rfl hne
  | vemp => exact absurd rfl hne
  | view _ _ _ b off cap f hc hm hsz h1' ht himm hh =>
    obtain ⟨h0, sz', hs1, htok⟩ := ht
    subst h0
    have hth := hs.tokOf htk htok
    obtain ⟨a1, a2, a3, a4, ⟨cur, a5, a6⟩, a7⟩ := hth
    have hm1 := Sim.mark hsu b cur.size 1 cur e (0, 0) a5 a1 (fun t' b' r h1 h2 e' => by
      subst e'
      simp only [St.untok] at h1
      split at h1
      · cases h1
      · rename_i hne'
        exact hne' (hs.tinj t' tk b' r _ h1 htk h2 htok)) (fun o c b' m h1 h2 e' => by
      subst e'
      exact hs.tobj tk o c b' _ m htk h1 htok h2)
    obtain ⟨he, hs'⟩ := hm1
    have hrun : (execOp a.eval ⟨dd, .convert t t x, ty, pos, es, gd⟩).run P w = .ok (.value (.slice (some ⟨b, 0, none⟩) rows.length cap)) (w.freeze ⟨b, cur.size, none⟩ 1) := by
      have hshape : w.shape? b = some (e, cur.size) := by
        unfold World.shape?
        rw [a5]
      simp [execOp, convert, hux, run_und (P := P) (t := t) w, run_und (P := P) (t := e) w, markStringish, hshape]
    refine ⟨_, g, _, .view sz rows .shared, st.untok tk, hrun, he, hs', ?_, h⟩
    exact R.view sz rows .shared b 0 cap f hc hm hsz h1' trivial (fun i j hi hj => ⟨(himm i j hi hj).1, by rw [he.cell _ _ (himm i j hi hj).1]; exact (himm i j hi hj).2⟩) (fun i j row c hr hcc => (hh i j row c hr hcc).ext he)
end Go.AM
/- The walks of the reference lexer's small functions. No conditions: lemmas only. -/
namespace Go.Proofs
open Go.AM

theorem rdigit_ok (r : Nat) (st : St) : ACalls Tryd.prog 38 [.int .u8 (r : Int)] st (fun v st' => v = .bool (digA r) ∧ st' = st) (fun _ _ => False) := by
  refine ACalls.ofBody Tryd.func38 rfl Tryd.ntmps38 rfl ?_
  repeat (first | refine nl ?_ | refine AWP.seq ?_ | refine rg ?_ | refine sm rfl ?_)
  refine AOps.split 5 rfl (fun h => ?_) (fun h => ?_)
  · have h' : 48 ≤ r := by have : (48 : Int) ≤ (r : Int) := h; omega
    repeat (first | refine nl ?_ | refine sm rfl ?_)
    refine AWP.ret (rets rfl (.refl _) (.refl _) ⟨?_, rfl⟩)
    simp only [packA, digA, h', decide_true, Bool.true_and]
    congr 1
    exact decide_eq_decide.2 (by omega)
  · have h' : ¬ 48 ≤ r := by have : ¬ (48 : Int) ≤ (r : Int) := h; omega
    repeat (first | refine nl ?_ | refine sm rfl ?_ | refine uw rfl ?_)
    refine AWP.ret (rets rfl (.refl _) (.refl _) ⟨?_, rfl⟩)
    simp [packA, digA, h', absV, abs1]

theorem rletter_ok (r : Nat) (st : St) : ACalls Tryd.prog 37 [.int .u8 (r : Int)] st (fun v st' => v = .bool (letA r) ∧ st' = st) (fun _ _ => False) := by
  refine ACalls.ofBody Tryd.func37 rfl Tryd.ntmps37 rfl ?_
  have fin : ∀ {b : Bool}, b = letA r → AV.bool b = .bool (letA r) := fun h => by rw [h]
  have e95 : (decide ((r : Int) = 95)) = decide (r = 95) := decide_eq_decide.2 (by omega)
  repeat (first | refine nl ?_ | refine AWP.seq ?_ | refine rg ?_ | refine sm rfl ?_)
  refine AOps.split 5 rfl (fun h => ?_) (fun h => ?_)
  · have h' : 97 ≤ r := by have : (97 : Int) ≤ (r : Int) := h; omega
    repeat (refine sm rfl ?_)
    refine AOps.split 9 rfl (fun h2 => ?_) (fun h2 => ?_)
    · have h2' : r ≤ 122 := by have : (r : Int) ≤ 122 := h2; omega
      repeat (first | refine nl ?_ | refine sm rfl ?_ | refine uw rfl ?_)
      exact AWP.ret (rets rfl (.refl _) (.refl _) ⟨fin (by simp [letA, h', h2']), rfl⟩)
    · have h2' : ¬ r ≤ 122 := by have : ¬ (r : Int) ≤ 122 := h2; omega
      repeat (refine sm rfl ?_)
      refine AOps.split 12 rfl (fun h3 => ?_) (fun h3 => absurd (show (65 : Int) ≤ (r : Int) by omega) h3)
      repeat (refine sm rfl ?_)
      refine AOps.split 17 rfl (fun h4 => absurd (show (r : Int) ≤ 90 from h4) (by omega)) (fun h4 => ?_)
      repeat (first | refine nl ?_ | refine sm rfl ?_)
      refine AWP.ret (rets rfl (.refl _) (.refl _) ⟨fin ?_, rfl⟩)
      rw [e95]
      simp [letA, h2', show ¬ r ≤ 90 by omega]
  · have h' : ¬ 97 ≤ r := by have : ¬ (97 : Int) ≤ (r : Int) := h; omega
    repeat (first | refine sm rfl ?_ | refine uw rfl ?_)
    refine AOps.split 12 rfl (fun h3 => ?_) (fun h3 => ?_)
    · have h3' : 65 ≤ r := by have : (65 : Int) ≤ (r : Int) := h3; omega
      repeat (refine sm rfl ?_)
      refine AOps.split 17 rfl (fun h4 => ?_) (fun h4 => ?_)
      · have h4' : r ≤ 90 := by have : (r : Int) ≤ 90 := h4; omega
        repeat (first | refine nl ?_ | refine sm rfl ?_ | refine uw rfl ?_)
        exact AWP.ret (rets rfl (.refl _) (.refl _) ⟨fin (by simp [letA, h3', h4']), rfl⟩)
      · have h4' : ¬ r ≤ 90 := by have : ¬ (r : Int) ≤ 90 := h4; omega
        repeat (first | refine nl ?_ | refine sm rfl ?_)
        refine AWP.ret (rets rfl (.refl _) (.refl _) ⟨fin ?_, rfl⟩)
        rw [e95]
        simp [letA, h', h4']
    · have h3' : ¬ 65 ≤ r := by have : ¬ (65 : Int) ≤ (r : Int) := h3; omega
      repeat (first | refine nl ?_ | refine sm rfl ?_ | refine uw rfl ?_)
      refine AWP.ret (rets rfl (.refl _) (.refl _) ⟨fin ?_, rfl⟩)
      rw [e95]
      simp [letA, h', h3']

theorem words_chunk : chunk 1 12 (words.map AV.str) = words.map fun w => [.str w] := rfl

theorem rres_ok (s : List UInt8) (st : St) : ACalls Tryd.prog 39 [.str s] st (fun v st' => v = .bool (decide (s ∈ words)) ∧ st' = st) (fun _ _ => False) := by
  refine ACalls.ofBody Tryd.func39 rfl Tryd.ntmps39 rfl ?_
  repeat (first | refine nl ?_ | refine AWP.seq ?_ | refine rg ?_ | refine sm rfl ?_)
  refine bs (cs := words.map .str) rfl rfl rfl rfl rfl fun tk _ => ?_
  refine AOps.weaken (.refl _) (StLe.addTok _ (.refl _)) ?_
  rw [words_chunk]
  obtain ⟨X, hX⟩ : ∃ X, X = words.map fun w => [AV.str w] := ⟨_, rfl⟩
  have hl : X.length = 12 := by rw [hX]; rfl
  have hx : ∀ i (h : i < 12), ∃ w, words[i]? = some w ∧ X[i]? = some [.str w] := fun i h => ⟨words[i]'h, List.getElem?_eq_getElem h, by rw [hX, List.getElem?_map, List.getElem?_eq_getElem h]; rfl⟩
  rw [← hX]
  repeat (first | refine nl ?_ | refine AWP.block ?_ | refine sm rfl ?_ | refine lnv rfl rfl ?_)
  refine AWP.loop (α := Nat) (fun i => [(7, .int .i64 (i : Int)), (6, .int .i64 (X.length : Int)), (5, .view 1 X (.own tk 9)), (0, .str s)]) (fun _ => st) (fun i => i ≤ 12 ∧ ∀ j w, j < i → words[j]? = some w → w ≠ s) (fun i => 12 - i) 0 ⟨Nat.zero_le _, fun j w h => by omega⟩ (tl4 rfl rfl rfl rfl) (.refl _) ?_
  rintro i ⟨hi, hall⟩
  repeat (first | refine nl ?_ | refine AWP.seq ?_ | refine rg ?_ | refine sm rfl ?_)
  refine AWP.cond_dec rfl (fun h => AWP.skip ?_) (fun h => AWP.exit (blk_hit ?_))
  · have hi' : i < X.length := by have : (i : Int) < (X.length : Int) := h; omega
    obtain ⟨w, hw, hr⟩ := hx i (by omega)
    repeat (first | refine nl ?_ | refine AWP.seq ?_ | refine rg ?_ | refine AWP.block ?_ | refine sm rfl ?_ | refine le rfl rfl (by assumption) rfl ?_ | refine ix rfl rfl rfl rfl (by assumption) ?_)
    refine AWP.cond_dec rfl (fun h => ?_) (fun hws => AWP.skip ?_)
    · have h' : w = s := h
      subst h'
      repeat (first | refine nl ?_ | refine AWP.seq ?_ | refine rg ?_ | refine sm rfl ?_)
      refine AWP.ret (rets rfl (.refl _) (.refl _) ⟨?_, rfl⟩)
      have : w ∈ words := List.mem_of_getElem? hw
      simp [packA, absV, abs1, this]
    · repeat (first | refine nl ?_ | refine rg ?_ | refine sm rfl ?_ | refine inc rfl rfl rfl (by omega) ?_)
      refine ⟨i + 1, ⟨by omega, fun j w' hj hw' => ?_⟩, by omega, (tl4 rfl rfl rfl rfl), .refl _⟩
      rcases Nat.lt_or_ge j i with h1 | h1
      · exact hall j w' h1 hw'
      · have : j = i := by omega
        subst this
        rw [hw] at hw'
        cases hw'
        exact hws
  · have hi' : i = 12 := by have : ¬ (i : Int) < (X.length : Int) := h; omega
    subst hi'
    repeat (first | refine nl ?_ | refine AWP.seq ?_ | refine rg ?_ | refine sm rfl ?_)
    refine AWP.ret (rets rfl (.refl _) (.refl _) ⟨?_, rfl⟩)
    have : ¬ s ∈ words := fun h => by
      obtain ⟨j, hj, he⟩ := List.getElem_of_mem h
      exact hall j s hj (by rw [List.getElem?_eq_getElem hj, he]) rfl
    simp [packA, absV, abs1, this]

theorem signs2_chunk : chunk 1 3 (signs2.map AV.str) = signs2.map fun w => [.str w] := rfl
theorem signs1_chunk : chunk 1 21 (signs1.map fun c => AV.int .u8 (c.toNat : Int)) = signs1.map fun c => [.int .u8 (c.toNat : Int)] := rfl

theorem rsign_ok (s : List UInt8) (hs : s.length ≤ 1000000) (at_ : Nat) (ha : at_ < s.length) (st : St) : ACalls Tryd.prog 40 [.str s, .int .i64 (at_ : Int)] st (fun v st' => v = .str (sign (s.drop at_)) ∧ st' = st) (fun _ _ => False) := by
  refine ACalls.ofBody Tryd.func40 rfl Tryd.ntmps40 rfl ?_
  have hd : s.drop at_ = s[at_] :: s.drop (at_ + 1) := List.drop_eq_getElem_cons ha
  have hc : s[at_]? = some s[at_] := List.getElem?_eq_getElem ha
  repeat (first | refine nl ?_ | refine AWP.seq ?_ | refine rg ?_ | refine sm rfl ?_ | refine lns rfl rfl ?_ | refine inc rfl rfl rfl (by omega) ?_)
  refine midp (¬ (s.drop at_).take 2 ∈ signs2) [(0, .str s), (1, .int .i64 (at_ : Int))] st ?_ fun hnm => ?_
  · refine AWP.cond_dec rfl (fun h => ?_) (fun h => AWP.skip ?_)
    · have h' : at_ + 1 < s.length := by have : ((at_ + 1 : Nat) : Int) < (s.length : Int) := h; omega
      repeat (first | refine AWP.seq ?_ | refine rg ?_)
      refine bs (cs := signs2.map .str) rfl rfl rfl rfl rfl fun tk _ => ?_
      refine AOps.weaken (.refl _) (StLe.addTok _ (.refl _)) ?_
      rw [signs2_chunk]
      obtain ⟨X, hX⟩ : ∃ X, X = signs2.map fun w => [AV.str w] := ⟨_, rfl⟩
      have hl : X.length = 3 := by rw [hX]; rfl
      have hx : ∀ i (h : i < 3), ∃ w, signs2[i]? = some w ∧ X[i]? = some [.str w] := fun i h => ⟨signs2[i]'h, List.getElem?_eq_getElem h, by rw [hX, List.getElem?_map, List.getElem?_eq_getElem h]; rfl⟩
      rw [← hX]
      repeat (first | refine nl ?_ | refine AWP.block ?_ | refine sm rfl ?_ | refine lnv rfl rfl ?_)
      refine AWP.loop (α := Nat) (fun i => [(16, .int .i64 (i : Int)), (15, .int .i64 (X.length : Int)), (14, .view 1 X (.own tk 9)), (1, .int .i64 (at_ : Int)), (0, .str s)]) (fun _ => st) (fun i => i ≤ 3 ∧ ∀ j w, j < i → signs2[j]? = some w → w ≠ (s.drop at_).take 2) (fun i => 3 - i) 0 ⟨Nat.zero_le _, fun j w h => by omega⟩ (tl5 rfl rfl rfl rfl rfl) (.refl _) ?_
      rintro i ⟨hi, hall⟩
      repeat (first | refine nl ?_ | refine AWP.seq ?_ | refine rg ?_ | refine sm rfl ?_)
      refine AWP.cond_dec rfl (fun h => AWP.skip ?_) (fun h => AWP.exit (blk_hit ?_))
      · have hi' : i < X.length := by have : (i : Int) < (X.length : Int) := h; omega
        obtain ⟨w, hw, hr⟩ := hx i (by omega)
        repeat (first | refine nl ?_ | refine AWP.seq ?_ | refine rg ?_ | refine AWP.block ?_ | refine sm rfl ?_ | refine le rfl rfl (by assumption) rfl ?_ | refine ix rfl rfl rfl rfl (by assumption) ?_)
        refine adn (b := 2) rfl rfl rfl (by omega) ?_
        refine ss2 rfl rfl rfl rfl (by omega) (by omega) ?_
        rw [show at_ + 2 - at_ = 2 by omega]
        repeat (first | refine nl ?_ | refine sm rfl ?_)
        refine AWP.cond_dec rfl (fun hws => ?_) (fun hws => AWP.skip ?_)
        · have hm : (s.drop at_).take 2 ∈ signs2 := by
            have h2 : (s.drop at_).take 2 = w := hws
            rw [h2]
            exact List.mem_of_getElem? hw
          repeat (first | refine nl ?_ | refine AWP.seq ?_ | refine rg ?_ | refine sm rfl ?_)
          refine AWP.ret (rets rfl (.refl _) (.refl _) ⟨?_, rfl⟩)
          have h2 : (s.drop at_).take 2 = w := hws
          unfold sign
          rw [if_pos hm, h2]
          rfl
        · repeat (first | refine nl ?_ | refine rg ?_ | refine sm rfl ?_ | refine inc rfl rfl rfl (by omega) ?_)
          refine ⟨i + 1, ⟨by omega, fun j w' hj hw' => ?_⟩, by omega, (tl5 rfl rfl rfl rfl rfl), .refl _⟩
          rcases Nat.lt_or_ge j i with h1 | h1
          · exact hall j w' h1 hw'
          · have : j = i := by omega
            subst this
            rw [hw] at hw'
            cases hw'
            exact fun e => hws e.symm
      · have hi' : i = 3 := by have : ¬ (i : Int) < (X.length : Int) := h; omega
        subst hi'
        refine ⟨tl2 rfl rfl, .refl _, fun hm => ?_⟩
        obtain ⟨j, hj, he⟩ := List.getElem_of_mem hm
        exact hall j _ hj (by rw [List.getElem?_eq_getElem hj, he]) rfl
    · have h' : ¬ at_ + 1 < s.length := by have : ¬ ((at_ + 1 : Nat) : Int) < (s.length : Int) := h; omega
      refine ⟨tl2 rfl rfl, .refl _, fun hm => ?_⟩
      have hl : ((s.drop at_).take 2).length = 1 := by rw [List.length_take, List.length_drop]; omega
      have h2 : ∀ w ∈ signs2, w.length = 2 := by decide
      have := h2 _ hm
      omega
  · repeat (first | refine AWP.seq ?_ | refine rg ?_)
    refine bs (cs := signs1.map fun c => AV.int .u8 (c.toNat : Int)) rfl rfl rfl rfl rfl fun tk htk => ?_
    rw [signs1_chunk]
    skip
    refine cvm rfl rfl (St.tok_addTok _ _) (by decide) ?_
    refine AOps.weaken (.refl _) (StLe.untok_add htk) ?_
    obtain ⟨X, hX⟩ : ∃ X, X = signs1.map fun c => [AV.int .u8 (c.toNat : Int)] := ⟨_, rfl⟩
    have hl : X.length = 21 := by rw [hX]; rfl
    have hx : ∀ i (h : i < 21), ∃ c, signs1[i]? = some c ∧ X[i]? = some [.int .u8 (c.toNat : Int)] := fun i h => ⟨signs1[i]'h, List.getElem?_eq_getElem h, by rw [hX, List.getElem?_map, List.getElem?_eq_getElem h]; rfl⟩
    rw [← hX]
    generalize s[at_] = c at hd hc
    repeat (first | refine nl ?_ | refine AWP.block ?_ | refine sm rfl ?_ | refine lnv rfl rfl ?_)
    refine AWP.loop (α := Nat) (fun i => [(32, .int .i64 (i : Int)), (31, .int .i64 (X.length : Int)), (30, .view 1 X .shared), (1, .int .i64 (at_ : Int)), (0, .str s)]) (fun _ => st) (fun i => i ≤ 21 ∧ ∀ j w, j < i → signs1[j]? = some w → w ≠ c) (fun i => 21 - i) 0 ⟨Nat.zero_le _, fun j w h => by omega⟩ (tl5 rfl rfl rfl rfl rfl) (.refl _) ?_
    rintro i ⟨hi, hall⟩
    repeat (first | refine nl ?_ | refine AWP.seq ?_ | refine rg ?_ | refine sm rfl ?_)
    refine AWP.cond_dec rfl (fun h => AWP.skip ?_) (fun h => AWP.exit (blk_hit ?_))
    · have hi' : i < X.length := by have : (i : Int) < (X.length : Int) := h; omega
      obtain ⟨w, hw, hr⟩ := hx i (by omega)
      repeat (first | refine nl ?_ | refine AWP.seq ?_ | refine rg ?_ | refine AWP.block ?_ | refine sm rfl ?_ | refine le rfl rfl (by assumption) rfl ?_ | refine ix rfl rfl rfl rfl (by assumption) ?_ | refine sx rfl rfl rfl rfl (by assumption) ?_)
      refine AWP.cond_dec rfl (fun hws => ?_) (fun hws => AWP.skip ?_)
      · have hcw : c = w := by
          have : (c.toNat : Int) = (w.toNat : Int) := hws
          exact UInt8.toNat_inj.1 (by omega)
        have hm : c ∈ signs1 := by
          rw [hcw]
          exact List.mem_of_getElem? hw
        repeat (first | refine AWP.seq ?_ | refine rg ?_ | refine sm rfl ?_ | refine inc rfl rfl rfl (by omega) ?_)
        refine ss2 rfl rfl rfl rfl (by omega) (by omega) ?_
        rw [show at_ + 1 - at_ = 1 by omega]
        repeat (first | refine nl ?_ | refine sm rfl ?_)
        refine AWP.ret (rets rfl (.refl _) (.refl _) ⟨?_, rfl⟩)
        unfold sign
        rw [if_neg hnm, hd]
        simp only [hm, if_true]
        rfl
      · repeat (first | refine nl ?_ | refine rg ?_ | refine sm rfl ?_ | refine inc rfl rfl rfl (by omega) ?_)
        refine ⟨i + 1, ⟨by omega, fun j w' hj hw' => ?_⟩, by omega, (tl5 rfl rfl rfl rfl rfl), .refl _⟩
        rcases Nat.lt_or_ge j i with h1 | h1
        · exact hall j w' h1 hw'
        · have : j = i := by omega
          subst this
          rw [hw] at hw'
          cases hw'
          rintro rfl
          exact hws rfl
    · have hi' : i = 21 := by have : ¬ (i : Int) < (X.length : Int) := h; omega
      subst hi'
      repeat (first | refine nl ?_ | refine AWP.seq ?_ | refine rg ?_ | refine sm rfl ?_)
      refine AWP.ret (rets rfl (.refl _) (.refl _) ⟨?_, rfl⟩)
      have hm : ¬ c ∈ signs1 := fun hm => by
        obtain ⟨j, hj, he⟩ := List.getElem_of_mem hm
        exact hall j _ hj (by rw [List.getElem?_eq_getElem hj, he]) rfl
      unfold sign
      rw [if_neg hnm, hd]
      simp only [hm, if_false]
      rfl
end Go.Proofs
/- The walk of the reference lexer's skip. No conditions: lemmas only. -/
namespace Go.Proofs
open Go.AM

/-- Where skip stands behind. -/
def skipAt (s : List UInt8) (p line : Nat) : Nat := s.length - (skip false (s.drop p) line).1.length

set_option maxHeartbeats 2000000 in
theorem rskip_ok (s : List UInt8) (hs : s.length ≤ 1000000) (p0 line0 : Nat) (hp0 : p0 ≤ s.length) (hl0 : line0 ≤ 1000000 + p0) (st : St) :
    ACalls Tryd.prog 24 [.str s, .int .i64 (p0 : Int), .int .i64 (line0 : Int)] st (fun v st' => v = .tuple [.int .i64 (skipAt s p0 line0 : Int), .int .i64 ((skip false (s.drop p0) line0).2 : Int)] ∧ st' = st) (fun _ _ => False) := by
  refine ACalls.ofBody Tryd.func24 rfl Tryd.ntmps24 rfl ?_
  repeat (first | refine nl ?_ | refine AWP.seq ?_ | refine rg ?_ | refine AWP.block ?_ | refine sm rfl ?_)
  refine AWP.loop (α := Nat × Nat) (fun x => [(2, .int .i64 (x.2 : Int)), (1, .int .i64 (x.1 : Int)), (0, .str s)]) (fun _ => st) (fun x => x.1 ≤ s.length ∧ x.2 ≤ 1000000 + x.1 ∧ skip false (s.drop x.1) x.2 = skip false (s.drop p0) line0) (fun x => s.length - x.1) (p0, line0) ⟨hp0, hl0, rfl⟩ (tl3 rfl rfl rfl) (.refl _) ?_
  rintro ⟨p, ln⟩ ⟨h1, h2, h3⟩
  simp only at h1 h2 h3
  refine AWP.weaken (T' := [(2, .int .i64 (ln : Int)), (1, .int .i64 (p : Int)), (0, .str s)]) (st' := st) (tl3 rfl rfl rfl) (.refl _) ?_
  repeat (first | refine nl ?_ | refine AWP.seq ?_ | refine rg ?_ | refine sm rfl ?_ | refine lns rfl rfl ?_)
  refine AWP.cond_dec rfl (fun h => AWP.skip ?_) (fun h => AWP.exit (blk_hit ?_))
  · have hp : p < s.length := by have : (p : Int) < (s.length : Int) := h; omega
    have hd : s.drop p = s[p] :: s.drop (p + 1) := List.drop_eq_getElem_cons hp
    have hc : s[p]? = some s[p] := List.getElem?_eq_getElem hp
    generalize s[p] = c at hd hc
    -- the way out
    have out : skip false (s.drop p) ln = (s.drop p, ln) → AV.tuple [.int .i64 (p : Int), .int .i64 (ln : Int)] = .tuple [.int .i64 (skipAt s p0 line0 : Int), .int .i64 ((skip false (s.drop p0) line0).2 : Int)] := by
      intro e
      unfold skipAt
      rw [← h3, e]
      simp only [List.length_drop]
      rw [show s.length - (s.length - p) = p by omega]
    by_cases h47 : c = 47
    · subst h47
      repeat (first | refine nl ?_ | refine AWP.seq ?_ | refine rg ?_ | refine AWP.block ?_ | refine sm rfl ?_ | refine lns rfl rfl ?_ | refine inc rfl rfl rfl (by omega) ?_ | refine sx rfl rfl rfl rfl (by assumption) ?_)
      refine AOps.split 25 rfl (fun h5 => ?_) (fun h5 => ?_)
      · have hp1 : p + 1 < s.length := by have : ((p + 1 : Nat) : Int) < (s.length : Int) := h5; omega
        have hd2 : s.drop (p + 1) = s[p + 1] :: s.drop (p + 1 + 1) := List.drop_eq_getElem_cons hp1
        have hc2 : s[p + 1]? = some s[p + 1] := List.getElem?_eq_getElem hp1
        generalize s[p + 1] = d at hd2 hc2
        repeat (first | refine nl ?_ | refine sm rfl ?_ | refine inc rfl rfl rfl (by omega) ?_ | refine sx rfl rfl rfl rfl (by assumption) ?_)
        refine AWP.cond_dec rfl (fun h6 => ?_) (fun h6 => AWP.skip ?_)
        · have hd47 : d = 47 := by
            have : (d.toNat : Int) = 47 := h6
            exact UInt8.toNat_inj.1 (by show d.toNat = 47; omega)
          subst hd47
          have ht : skip true (s.drop p) ln = skip false (s.drop p0) line0 := by
            rw [← h3, hd, hd2]
            rfl
          repeat (first | refine AWP.seq ?_ | refine AWP.block ?_)
          refine AWP.loop (α := Nat) (fun q => [(2, .int .i64 (ln : Int)), (1, .int .i64 (q : Int)), (0, .str s)]) (fun _ => st) (fun q => q ≤ s.length ∧ ln ≤ 1000000 + q ∧ skip true (s.drop q) ln = skip false (s.drop p0) line0 ∧ (q = p ∨ p < q)) (fun q => s.length - q) p ⟨h1, h2, ht, .inl rfl⟩ (tl3 rfl rfl rfl) (.refl _) ?_
          rintro q ⟨q1, q2, q3, q4⟩
          repeat (first | refine AWP.seq ?_ | refine rg ?_ | refine sm rfl ?_ | refine lns rfl rfl ?_)
          refine AOps.split 36 rfl (fun h7 => ?_) (fun h7 => ?_)
          · have hq : q < s.length := by have : (q : Int) < (s.length : Int) := h7; omega
            have hdq : s.drop q = s[q] :: s.drop (q + 1) := List.drop_eq_getElem_cons hq
            have hcq : s[q]? = some s[q] := List.getElem?_eq_getElem hq
            generalize s[q] = b at hdq hcq
            have hqp : b = 10 → p < q := by
              rintro rfl
              rcases q4 with rfl | h
              · rw [hd] at hdq
                cases hdq
              · exact h
            repeat (first | refine nl ?_ | refine sm rfl ?_ | refine sx rfl rfl rfl rfl (by assumption) ?_)
            refine AWP.cond_dec rfl (fun h8 => AWP.skip ?_) (fun h8 => AWP.exit (blk_hit ?_))
            · have hb : ¬ b = 10 := by
                rintro rfl
                exact h8 rfl
              repeat (first | refine nl ?_ | refine rg ?_ | refine AWP.block ?_ | refine sm rfl ?_ | refine inc rfl rfl rfl (by omega) ?_)
              refine ⟨q + 1, ⟨by omega, by omega, ?_, .inr (by omega)⟩, by omega, (tl3 rfl rfl rfl), .refl _⟩
              rw [← q3, hdq, skip_cons true b, if_neg hb]
              rfl
            · have hb : b = 10 := by
                have h9 : ¬ (b.toNat : Int) ≠ 10 := h8
                exact UInt8.toNat_inj.1 (by show b.toNat = 10; omega)
              have hlt := hqp hb
              subst hb
              skip
              refine AWP.exit ?_
              refine ⟨(q, ln), ⟨q1, q2, ?_⟩, by simp only; omega, (tl3 rfl rfl rfl), .refl _⟩
              simp only
              rw [← q3, hdq]
              rfl
          · have hq : q = s.length := by have : ¬ (q : Int) < (s.length : Int) := h7; omega
            subst hq
            repeat (first | refine nl ?_ | refine sm rfl ?_ | refine uw rfl ?_)
            refine AWP.cond_false rfl (AWP.exit (blk_hit ?_))
            refine AWP.exit ?_
            refine ⟨(s.length, ln), ⟨Nat.le_refl _, q2, ?_⟩, by simp only; omega, (tl3 rfl rfl rfl), .refl _⟩
            simp only
            rw [← q3, List.drop_length]
            rfl
        · have hd47 : ¬ d = 47 := by
            rintro rfl
            exact h6 rfl
          repeat (first | refine nl ?_ | refine AWP.seq ?_ | refine rg ?_ | refine sm rfl ?_)
          refine AWP.cond_true rfl ?_
          repeat (first | refine nl ?_ | refine AWP.seq ?_ | refine rg ?_ | refine sm rfl ?_)
          refine AWP.ret (rets rfl (.refl _) (.refl _) ⟨out ?_, rfl⟩)
          rw [hd, hd2, skip_cons, if_neg (by decide), if_neg (by decide), if_neg (by rintro ⟨_, h9⟩; exact hd47 (by simpa using h9))]
          rfl
      · have hp1 : s.drop (p + 1) = [] := List.drop_eq_nil_of_le (by have : ¬ ((p + 1 : Nat) : Int) < (s.length : Int) := h5; omega)
        repeat (first | refine nl ?_ | refine sm rfl ?_ | refine uw rfl ?_)
        refine AWP.cond_false rfl (AWP.skip ?_)
        repeat (first | refine nl ?_ | refine AWP.seq ?_ | refine rg ?_ | refine sm rfl ?_)
        refine AWP.cond_true rfl ?_
        repeat (first | refine nl ?_ | refine AWP.seq ?_ | refine rg ?_ | refine sm rfl ?_)
        refine AWP.ret (rets rfl (.refl _) (.refl _) ⟨out ?_, rfl⟩)
        rw [hd, hp1]
        rfl
    · repeat (first | refine nl ?_ | refine AWP.seq ?_ | refine rg ?_ | refine AWP.block ?_ | refine sm rfl ?_ | refine sx rfl rfl rfl rfl (by assumption) ?_)
      refine AOps.split 18 rfl (fun h5 => absurd (UInt8.toNat_inj.1 (show c.toNat = 47 by have : (c.toNat : Int) = 47 := h5; omega)) h47) (fun _ => ?_)
      repeat (first | refine nl ?_ | refine sm rfl ?_ | refine uw rfl ?_)
      refine AWP.cond_false rfl (AWP.skip ?_)
      by_cases hbl : c = 32 ∨ c = 9 ∨ c = 13
      · have hsk : skip false (s.drop (p + 1)) ln = skip false (s.drop p0) line0 := by
          rw [← h3, hd, skip_cons, if_neg (by rcases hbl with rfl | rfl | rfl <;> decide), cond_false, if_pos hbl]
        rcases hbl with rfl | rfl | rfl
        · repeat (first | refine nl ?_ | refine AWP.seq ?_ | refine rg ?_ | refine sm rfl ?_ | refine uw rfl ?_)
          refine AWP.cond_false rfl (AWP.skip ?_)
          repeat (first | refine nl ?_ | refine AWP.seq ?_ | refine rg ?_ | refine sm rfl ?_)
          refine AWP.cond_false rfl (AWP.skip ?_)
          repeat (first | refine nl ?_ | refine rg ?_ | refine sm rfl ?_ | refine inc rfl rfl rfl (by omega) ?_)
          exact ⟨(p + 1, ln), ⟨hp, by simp only; omega, hsk⟩, by simp only; omega, (tl3 rfl rfl rfl), .refl _⟩
        · repeat (first | refine nl ?_ | refine AWP.seq ?_ | refine rg ?_ | refine sm rfl ?_ | refine uw rfl ?_)
          refine AWP.cond_false rfl (AWP.skip ?_)
          repeat (first | refine nl ?_ | refine AWP.seq ?_ | refine rg ?_ | refine sm rfl ?_)
          refine AWP.cond_false rfl (AWP.skip ?_)
          repeat (first | refine nl ?_ | refine rg ?_ | refine sm rfl ?_ | refine inc rfl rfl rfl (by omega) ?_)
          exact ⟨(p + 1, ln), ⟨hp, by simp only; omega, hsk⟩, by simp only; omega, (tl3 rfl rfl rfl), .refl _⟩
        · repeat (first | refine nl ?_ | refine AWP.seq ?_ | refine rg ?_ | refine sm rfl ?_ | refine uw rfl ?_)
          refine AWP.cond_false rfl (AWP.skip ?_)
          repeat (first | refine nl ?_ | refine AWP.seq ?_ | refine rg ?_ | refine sm rfl ?_)
          refine AWP.cond_false rfl (AWP.skip ?_)
          repeat (first | refine nl ?_ | refine rg ?_ | refine sm rfl ?_ | refine inc rfl rfl rfl (by omega) ?_)
          exact ⟨(p + 1, ln), ⟨hp, by simp only; omega, hsk⟩, by simp only; omega, (tl3 rfl rfl rfl), .refl _⟩
      · by_cases h10 : c = 10
        · have hsk : skip false (s.drop (p + 1)) (ln + 1) = skip false (s.drop p0) line0 := by
            rw [← h3, hd, skip_cons, if_pos h10]
          subst h10
          repeat (first | refine nl ?_ | refine AWP.seq ?_ | refine rg ?_ | refine sm rfl ?_)
          refine AWP.cond_false rfl (AWP.skip ?_)
          repeat (first | refine nl ?_ | refine AWP.seq ?_ | refine rg ?_ | refine sm rfl ?_)
          refine AWP.cond_true rfl ?_
          repeat (first | refine nl ?_ | refine rg ?_ | refine sm rfl ?_ | refine inc rfl rfl rfl (by omega) ?_)
          exact ⟨(p + 1, ln + 1), ⟨hp, by simp only; omega, hsk⟩, by simp only; omega, (tl3 rfl rfl rfl), .refl _⟩
        · have n32 : ¬ (c.toNat : Int) = 32 := fun h => hbl (.inl (UInt8.toNat_inj.1 (show c.toNat = 32 by omega)))
          have n9 : ¬ (c.toNat : Int) = 9 := fun h => hbl (.inr (.inl (UInt8.toNat_inj.1 (show c.toNat = 9 by omega))))
          have n13 : ¬ (c.toNat : Int) = 13 := fun h => hbl (.inr (.inr (UInt8.toNat_inj.1 (show c.toNat = 13 by omega))))
          have n10 : ¬ (c.toNat : Int) = 10 := fun h => h10 (UInt8.toNat_inj.1 (show c.toNat = 10 by omega))
          repeat (first | refine AWP.seq ?_ | refine rg ?_ | refine sm rfl ?_)
          refine AOps.split 46 rfl (fun _ => ?_) (fun h => absurd n32 h)
          repeat (refine sm rfl ?_)
          refine AOps.split 50 rfl (fun _ => ?_) (fun h => absurd n9 h)
          repeat (refine sm rfl ?_)
          refine AOps.split 54 rfl (fun _ => ?_) (fun h => absurd n13 h)
          repeat (first | refine nl ?_ | refine sm rfl ?_)
          refine AWP.cond_dec rfl (fun _ => ?_) (fun h => absurd n10 h)
          repeat (first | refine nl ?_ | refine AWP.seq ?_ | refine rg ?_ | refine sm rfl ?_)
          refine AWP.ret (rets rfl (.refl _) (.refl _) ⟨out ?_, rfl⟩)
          rw [hd, skip_cons, if_neg h10, cond_false, if_neg hbl, if_neg (fun h => h47 h.1)]
  · have hp : p = s.length := by have : ¬ (p : Int) < (s.length : Int) := h; omega
    subst hp
    rw [List.drop_length] at h3
    repeat (first | refine nl ?_ | refine AWP.seq ?_ | refine rg ?_ | refine sm rfl ?_)
    refine AWP.ret (rets rfl (.refl _) (.refl _) ⟨?_, rfl⟩)
    unfold skipAt
    rw [← h3]
    rfl
end Go.Proofs
/- The walk of the reference lexer's one. No conditions: lemmas only. -/
namespace Go.Proofs
open Go.AM

theorem wrap8 {a : Int} (h : 0 ≤ a ∧ a < 256) : IntKind.u8.wrap a = a := by
  simp only [IntKind.wrap, IntKind.bits, IntKind.signed]
  simp
  omega

/-- What the reference's one answers. -/
def roneV (at_ : Nat) : Except Nat (Tk × Nat) → AV
  | .error e => .tuple [.agg (tokRow zTk), .int .i64 0, .int .i64 (e : Int)]
  | .ok (t, m) => .tuple [.agg (tokRow t), .int .i64 ((at_ + m : Nat) : Int), .int .i64 0]

set_option maxHeartbeats 8000000 in
theorem rone_ok (s : List UInt8) (hs : s.length ≤ 1000000) (at_ line : Nat) (hat : at_ < s.length) (st : St) :
    ACalls Tryd.prog 25 [.str s, .int .i64 (at_ : Int), .int .i64 (line : Int)] st (fun v st' => v = roneV at_ (one (s.drop at_) line) ∧ st' = st) (fun _ _ => False) := by
  refine ACalls.ofBody Tryd.func25 rfl Tryd.ntmps25 rfl ?_
  have hd : s.drop at_ = s[at_] :: s.drop (at_ + 1) := List.drop_eq_getElem_cons hat
  have hc : s[at_]? = some s[at_] := List.getElem?_eq_getElem hat
  have hone : one (s.drop at_) line = bif isLet s[at_] then (let nm := (s.drop at_).takeWhile isNP; if 12 < nm.length then .error 5 else .ok (⟨if nm ∈ words then 3 else 1, line, nm, 0⟩, nm.length))
    else bif isDig s[at_] then (let ds := (s.drop at_).takeWhile isDig; if 18 < ds.length then .error 5 else if (((s.drop at_).drop ds.length).head?.map isNP).getD false = true then .error 6 else .ok (⟨2, line, [], digits ds⟩, ds.length))
    else if sign (s.drop at_) = [] then .error 6 else .ok (⟨4, line, sign (s.drop at_), 0⟩, (sign (s.drop at_)).length) := by
    rw [hd]
    rfl
  have hll : ∀ c : UInt8, letA c.toNat = isLet c := fun _ => rfl
  have hdd : ∀ c : UInt8, digA c.toNat = isDig c := fun _ => rfl
  generalize s[at_] = c at hd hc hone
  repeat (refine AWP.seq ?_)
  refine rg ?_
  refine al rfl rfl fun o6 ho6 => ?_
  repeat (first | refine nl ?_ | refine AWP.seq ?_ | refine rg ?_ | refine sm rfl ?_ | refine sx rfl rfl rfl rfl (by assumption) ?_)
  refine cle rfl rfl (rletter_ok c.toNat _) ?_
  repeat (refine nl ?_)
  refine AWP.cond_bool rfl (fun hb => ?_) (fun hb => AWP.skip ?_)
  · have hcl : isLet c = true := hb
    rw [hcl, cond_true] at hone
    have hnle := (List.takeWhile_prefix isNP (l := s.drop at_)).length_le
    rw [List.length_drop] at hnle
    have hnt := fun p => tw_len (q := isNP) (l := s.drop at_) (p := p)
    have htk : (s.drop at_).take ((s.drop at_).takeWhile isNP).length = (s.drop at_).takeWhile isNP := (List.prefix_iff_eq_take.1 (List.takeWhile_prefix isNP)).symm
    generalize (s.drop at_).takeWhile isNP = nm at hone hnle hnt htk
    refine AWP.seq ?_
    refine midk [(9, .int .i64 (at_ : Int)), (6, .cptr o6 4 0 0), (2, .int .i64 (line : Int)), (1, .int .i64 ((at_ + nm.length : Nat) : Int)), (0, .str s)] (st.set o6 (.cells 36 4 [tokRow zTk])) ?_ ?_
    · repeat (refine AWP.block ?_)
      refine AWP.loop (α := Nat) (fun q => [(9, .int .i64 (at_ : Int)), (6, .cptr o6 4 0 0), (2, .int .i64 (line : Int)), (1, .int .i64 (q : Int)), (0, .str s)]) (fun _ => st.set o6 (.cells 36 4 [tokRow zTk]))
        (fun q => at_ ≤ q ∧ q ≤ s.length ∧ ∀ j, j < q - at_ → ∃ b, (s.drop at_)[j]? = some b ∧ isNP b = true) (fun q => s.length - q) at_ ⟨Nat.le_refl _, by omega, fun j h => by omega⟩ (tl5 rfl rfl rfl rfl rfl) (.refl _) ?_
      rintro q ⟨q1, q2, q3⟩
      repeat (first | refine AWP.seq ?_ | refine rg ?_ | refine sm rfl ?_ | refine lns rfl rfl ?_)
      refine AOps.split 22 rfl (fun h7 => ?_) (fun h7 => ?_)
      · have hq : q < s.length := by have : (q : Int) < (s.length : Int) := h7; omega
        have hcq : s[q]? = some s[q] := List.getElem?_eq_getElem hq
        have hcd : (s.drop at_)[q - at_]? = some s[q] := by rw [List.getElem?_drop, show at_ + (q - at_) = q by omega]; exact hcq
        generalize s[q] = b at hcq hcd
        have next : isNP b = true → ∀ j, j < q + 1 - at_ → ∃ b, (s.drop at_)[j]? = some b ∧ isNP b = true := by
          intro hb j hj
          rcases Nat.lt_or_ge j (q - at_) with h1 | h1
          · exact q3 j h1
          · have : j = q - at_ := by omega
            subst this
            exact ⟨b, hcd, hb⟩
        repeat (first | refine sm rfl ?_ | refine sx rfl rfl rfl rfl (by assumption) ?_)
        refine cle rfl rfl (rletter_ok b.toNat _) ?_
        repeat (refine sm rfl ?_)
        refine AOps.splitB 27 rfl (fun hl => ?_) (fun hl => ?_)
        · have hl' : isLet b = true := hl
          repeat (first | refine nl ?_ | refine sm rfl ?_ | refine uw rfl ?_)
          refine AWP.cond_true rfl (AWP.skip ?_)
          repeat (first | refine nl ?_ | refine rg ?_ | refine AWP.block ?_ | refine sm rfl ?_ | refine inc rfl rfl rfl (by omega) ?_)
          exact ⟨q + 1, ⟨by omega, by omega, next (by simp [isNP, hl'])⟩, by omega, (tl5 rfl rfl rfl rfl rfl), .refl _⟩
        · have hl' : isLet b = false := hl
          repeat (first | refine sm rfl ?_ | refine sx rfl rfl rfl rfl (by assumption) ?_)
          refine cle rfl rfl (rdigit_ok b.toNat _) ?_
          repeat (first | refine nl ?_ | refine sm rfl ?_)
          refine AWP.cond_bool rfl (fun hg => AWP.skip ?_) (fun hg => AWP.exit (blk_hit ?_))
          · have hg' : isDig b = true := hg
            repeat (first | refine nl ?_ | refine rg ?_ | refine AWP.block ?_ | refine sm rfl ?_ | refine inc rfl rfl rfl (by omega) ?_)
            exact ⟨q + 1, ⟨by omega, by omega, next (by simp [isNP, hg'])⟩, by omega, (tl5 rfl rfl rfl rfl rfl), .refl _⟩
          · have hg' : isDig b = false := (by simpa using hg : digA b.toNat = false)
            have := hnt (q - at_) q3 (.inl ⟨b, hcd, by simp [isNP, hl', hg']⟩) (by rw [List.length_drop]; omega)
            have hqe : q = at_ + nm.length := by omega
            subst hqe
            exact ⟨(tl5 rfl rfl rfl rfl rfl), .refl _⟩
      · have hq : q = s.length := by have : ¬ (q : Int) < (s.length : Int) := h7; omega
        have := hnt (q - at_) q3 (.inr (by rw [List.length_drop]; omega)) (by rw [List.length_drop]; omega)
        have hqe : q = at_ + nm.length := by omega
        subst hqe
        repeat (first | refine nl ?_ | refine sm rfl ?_ | refine uw rfl ?_)
        refine AWP.cond_false rfl (AWP.exit (blk_hit ?_))
        exact ⟨(tl5 rfl rfl rfl rfl rfl), .refl _⟩
    · repeat (first | refine AWP.seq ?_ | refine rg ?_ | refine sm rfl ?_)
      refine Go.AM.sb rfl rfl rfl (by omega) ?_
      rw [show ((at_ + nm.length : Nat) : Int) - (at_ : Int) = (nm.length : Int) by omega]
      repeat (first | refine nl ?_ | refine sm rfl ?_)
      refine AWP.cond_dec rfl (fun h2 => ?_) (fun h2 => AWP.skip ?_)
      · have h2' : 12 < nm.length := by have : (12 : Int) < (nm.length : Int) := h2; omega
        simp only [if_pos h2'] at hone
        rw [hone]
        repeat (refine AWP.seq ?_)
        refine rg ?_
        refine bds (cs := tokRow zTk) rfl rfl rfl rfl ?_
        refine soV rfl rfl rfl rfl rfl rfl ?_
        repeat (first | refine nl ?_ | refine sm rfl ?_)
        exact AWP.ret (rets (resCW rfl (St.obj_set _ _ _) rfl rfl rfl rfl) (.refl _) (StLe.new ho6 (.refl _)) ⟨rfl, rfl⟩)
      · have h2' : ¬ 12 < nm.length := by have : ¬ (12 : Int) < (nm.length : Int) := h2; omega
        simp only [if_neg h2'] at hone
        rw [hone]
        repeat (first | refine AWP.seq ?_ | refine rg ?_ | refine sm rfl ?_)
        refine ss2 rfl rfl rfl rfl (by omega) (by omega) ?_
        rw [Nat.add_sub_cancel_left, htk]
        repeat (first | refine nl ?_ | refine AWP.seq ?_ | refine rg ?_ | refine sm rfl ?_)
        refine cle rfl rfl (rres_ok nm _) ?_
        repeat (refine nl ?_)
        refine AWP.cond_dec rfl (fun h3 => ?_) (fun h3 => AWP.skip ?_)
        · rw [if_pos h3]
          repeat (first | refine AWP.seq ?_ | refine rg ?_ | refine sm rfl ?_)
          refine bds (cs := tokRow ⟨3, line, nm, 0⟩) rfl rfl rfl rfl ?_
          repeat (refine sm rfl ?_)
          refine soV rfl rfl rfl rfl rfl rfl ?_
          repeat (first | refine nl ?_ | refine sm rfl ?_)
          exact AWP.ret (rets (resCW rfl (St.obj_set _ _ _) rfl rfl rfl rfl) (.refl _) (StLe.new ho6 (.refl _)) ⟨rfl, rfl⟩)
        · rw [if_neg h3]
          repeat (first | refine AWP.seq ?_ | refine rg ?_ | refine sm rfl ?_)
          refine bds (cs := tokRow ⟨1, line, nm, 0⟩) rfl rfl rfl rfl ?_
          repeat (refine sm rfl ?_)
          refine soV rfl rfl rfl rfl rfl rfl ?_
          repeat (first | refine nl ?_ | refine sm rfl ?_)
          exact AWP.ret (rets (resCW rfl (St.obj_set _ _ _) rfl rfl rfl rfl) (.refl _) (StLe.new ho6 (.refl _)) ⟨rfl, rfl⟩)
  · have hcl : isLet c = false := (by simpa using hb : letA c.toNat = false)
    rw [hcl, cond_false] at hone
    repeat (first | refine AWP.seq ?_ | refine rg ?_ | refine sm rfl ?_ | refine sx rfl rfl rfl rfl (by assumption) ?_)
    refine cle rfl rfl (rdigit_ok c.toNat _) ?_
    repeat (refine nl ?_)
    refine AWP.cond_bool rfl (fun hb2 => ?_) (fun hb2 => AWP.skip ?_)
    · have hcd : isDig c = true := hb2
      rw [hcd, cond_true] at hone
      have hnle := (List.takeWhile_prefix isDig (l := s.drop at_)).length_le
      rw [List.length_drop] at hnle
      have htk : (s.drop at_).take ((s.drop at_).takeWhile isDig).length = (s.drop at_).takeWhile isDig := (List.prefix_iff_eq_take.1 (List.takeWhile_prefix isDig)).symm
      have hall : ∀ x ∈ (s.drop at_).takeWhile isDig, isDig x = true := fun x hx => mem_tw hx
      have hstop : ∀ b, s[at_ + ((s.drop at_).takeWhile isDig).length]? = some b → isDig b = false := by
        intro b hb
        have h1 : ((s.drop at_).drop ((s.drop at_).takeWhile isDig).length).head? = some b := by rw [List.drop_drop, List.head?_drop]; exact hb
        have h2 : (s.drop at_).dropWhile isDig = (s.drop at_).drop ((s.drop at_).takeWhile isDig).length := by
          have h3 := List.takeWhile_append_dropWhile (p := isDig) (l := s.drop at_)
          conv => rhs; arg 2; rw [← h3]
          rw [List.drop_left]
        rw [← h2] at h1
        have h4 := List.head?_dropWhile_not isDig (s.drop at_)
        rw [h1] at h4
        simpa using h4
      have hhd : (((s.drop at_).drop ((s.drop at_).takeWhile isDig).length).head?.map isNP).getD false = ((s[at_ + ((s.drop at_).takeWhile isDig).length]?).map isLet).getD false := by
        rw [List.drop_drop, List.head?_drop]
        cases hb : s[at_ + ((s.drop at_).takeWhile isDig).length]? with
        | none => rfl
        | some b => simp [isNP, hstop b hb]
      simp only [hhd] at hone
      clear hhd
      generalize (s.drop at_).takeWhile isDig = ds at hone hnle htk hall hstop
      refine AWP.seq ?_
      refine rg ?_
      repeat (refine sm rfl ?_)
      refine nl ?_
      refine AWP.seq ?_
      refine midk [(11, .int .i64 ((digits (ds.take (min ds.length 18)) : Nat) : Int)), (9, .int .i64 (at_ : Int)), (6, .cptr o6 4 0 0), (2, .int .i64 (line : Int)), (1, .int .i64 ((at_ + ds.length : Nat) : Int)), (0, .str s)] (st.set o6 (.cells 36 4 [tokRow zTk])) ?_ ?_
      · repeat (refine AWP.block ?_)
        refine AWP.loop (α := Nat) (fun q => [(11, .int .i64 ((digits (ds.take (min (q - at_) 18)) : Nat) : Int)), (9, .int .i64 (at_ : Int)), (6, .cptr o6 4 0 0), (2, .int .i64 (line : Int)), (1, .int .i64 (q : Int)), (0, .str s)]) (fun _ => st.set o6 (.cells 36 4 [tokRow zTk]))
          (fun q => at_ ≤ q ∧ q ≤ at_ + ds.length) (fun q => s.length - q) at_ ⟨Nat.le_refl _, by omega⟩ ?_ (.refl _) ?_
        · rw [Nat.sub_self]
          exact (tl6 rfl rfl rfl rfl rfl rfl)
        rintro q ⟨q1, q2⟩
        repeat (first | refine AWP.seq ?_ | refine rg ?_ | refine sm rfl ?_ | refine lns rfl rfl ?_)
        refine AOps.split 63 rfl (fun h7 => ?_) (fun h7 => ?_)
        · have hq : q < s.length := by have : (q : Int) < (s.length : Int) := h7; omega
          have hcq : s[q]? = some s[q] := List.getElem?_eq_getElem hq
          rcases Nat.lt_or_ge (q - at_) ds.length with hk | hk
          · have hdq : ds[q - at_]? = some s[q] := by
              conv => lhs; rw [← htk]
              rw [List.getElem?_take_of_lt hk, List.getElem?_drop, show at_ + (q - at_) = q by omega]
              exact hcq
            generalize s[q] = b at hcq hdq
            have hb := hall b (List.mem_of_getElem? hdq)
            have hb' := hb
            simp only [isDig, Bool.and_eq_true, decide_eq_true_eq] at hb'
            repeat (first | refine sm rfl ?_ | refine sx rfl rfl rfl rfl (by assumption) ?_)
            refine cle rfl rfl (rdigit_ok b.toNat _) ?_
            repeat (first | refine nl ?_ | refine sm rfl ?_)
            refine AWP.cond_bool rfl (fun _ => AWP.skip ?_) (fun hg => absurd (hb : digA b.toNat = true) (by rw [show isDig b = false from (by simpa using hg : digA b.toNat = false)]; decide))
            repeat (first | refine AWP.seq ?_ | refine rg ?_ | refine AWP.block ?_ | refine sm rfl ?_)
            refine Go.AM.sb rfl rfl rfl (by omega) ?_
            rw [show (q : Int) - (at_ : Int) = ((q - at_ : Nat) : Int) by omega]
            repeat (first | refine nl ?_ | refine sm rfl ?_)
            refine AWP.cond_dec rfl (fun h18 => ?_) (fun h18 => AWP.skip ?_)
            · have h18' : q - at_ < 18 := by have : ((q - at_ : Nat) : Int) < 18 := h18; omega
              have hm : min (q - at_) 18 = q - at_ := by omega
              have hm1 : min (q + 1 - at_) 18 = q - at_ + 1 := by omega
              have hsn : digits (ds.take (q - at_ + 1)) = digits (ds.take (q - at_)) * 10 + (b.toNat - 48) := by
                rw [List.take_add_one, hdq, Option.toList_some, digits_snoc]
              have hlt : digits (ds.take (q - at_)) < 10 ^ (q - at_) := digits_lt _ _ (by rw [List.length_take]; omega) fun c hc => hall c (List.mem_of_mem_take hc)
              have hb2 : 10 ^ (q - at_) ≤ 10 ^ 17 := Nat.pow_le_pow_right (by omega) (by omega)
              rw [hm]
              generalize digits (ds.take (q - at_)) = v at hsn hlt
              repeat (first | refine rg ?_ | refine sm rfl ?_)
              refine mlk (c := ((10 * v : Nat) : Int)) rfl rfl rfl (by rw [wrap64 (by omega)]; omega) ?_
              repeat (first | refine sm rfl ?_ | refine sx rfl rfl rfl rfl (by assumption) ?_)
              refine sbk (c := ((b.toNat - 48 : Nat) : Int)) rfl rfl rfl (by rw [wrap8 (by omega)]; omega) ?_
              refine cv (c := ((b.toNat - 48 : Nat) : Int)) rfl rfl (wrap64 (by omega)) ?_
              repeat (first | refine nl ?_ | refine rg ?_ | refine sm rfl ?_ | refine inc rfl rfl rfl (by omega) ?_ | refine adn rfl rfl rfl (by omega) ?_)
              refine ⟨q + 1, ⟨by omega, by omega⟩, by omega, ?_, .refl _⟩
              rw [hm1, hsn, Nat.mul_comm v 10]
              exact (tl6 rfl rfl rfl rfl rfl rfl)
            · have h18' : ¬ q - at_ < 18 := by have : ¬ ((q - at_ : Nat) : Int) < 18 := h18; omega
              have hm : min (q + 1 - at_) 18 = min (q - at_) 18 := by omega
              repeat (first | refine nl ?_ | refine rg ?_ | refine sm rfl ?_ | refine inc rfl rfl rfl (by omega) ?_)
              refine ⟨q + 1, ⟨by omega, by omega⟩, by omega, ?_, .refl _⟩
              rw [hm]
              exact (tl6 rfl rfl rfl rfl rfl rfl)
          · have hqe : q = at_ + ds.length := by omega
            have hnd := hstop s[q] (by rw [← hqe]; exact hcq)
            generalize s[q] = b at hcq hnd
            repeat (first | refine sm rfl ?_ | refine sx rfl rfl rfl rfl (by assumption) ?_)
            refine cle rfl rfl (rdigit_ok b.toNat _) ?_
            repeat (first | refine nl ?_ | refine sm rfl ?_)
            refine AWP.cond_bool rfl (fun hg => absurd (show isDig b = true from hg) (by rw [hnd]; decide)) (fun _ => AWP.exit (blk_hit ?_))
            subst hqe
            rw [Nat.add_sub_cancel_left]
            exact ⟨(tl6 rfl rfl rfl rfl rfl rfl), .refl _⟩
        · have hq : q = s.length := by have : ¬ (q : Int) < (s.length : Int) := h7; omega
          have hqe : q = at_ + ds.length := by omega
          subst hqe
          rw [Nat.add_sub_cancel_left]
          repeat (first | refine nl ?_ | refine sm rfl ?_ | refine uw rfl ?_)
          refine AWP.cond_false rfl (AWP.exit (blk_hit ?_))
          exact ⟨(tl6 rfl rfl rfl rfl rfl rfl), .refl _⟩
      · repeat (first | refine AWP.seq ?_ | refine rg ?_ | refine sm rfl ?_)
        refine Go.AM.sb rfl rfl rfl (by omega) ?_
        rw [show ((at_ + ds.length : Nat) : Int) - (at_ : Int) = (ds.length : Int) by omega]
        repeat (first | refine nl ?_ | refine sm rfl ?_)
        refine AWP.cond_dec rfl (fun h2 => ?_) (fun h2 => AWP.skip ?_)
        · have h2' : 18 < ds.length := by have : (18 : Int) < (ds.length : Int) := h2; omega
          simp only [if_pos h2'] at hone
          rw [hone]
          repeat (refine AWP.seq ?_)
          refine rg ?_
          refine bds (cs := tokRow zTk) rfl rfl rfl rfl ?_
          refine soV rfl rfl rfl rfl rfl rfl ?_
          repeat (first | refine nl ?_ | refine sm rfl ?_)
          exact AWP.ret (rets (resCW rfl (St.obj_set _ _ _) rfl rfl rfl rfl) (.refl _) (StLe.new ho6 (.refl _)) ⟨rfl, rfl⟩)
        · have h2' : ¬ 18 < ds.length := by have : ¬ (18 : Int) < (ds.length : Int) := h2; omega
          simp only [if_neg h2'] at hone
          have hm : ds.take (min ds.length 18) = ds := by rw [show min ds.length 18 = ds.length by omega, List.take_length]
          rw [hm]
          repeat (first | refine AWP.seq ?_ | refine rg ?_ | refine sm rfl ?_ | refine lns rfl rfl ?_)
          refine AOps.split 92 rfl (fun h7 => ?_) (fun h7 => ?_)
          · have hq : at_ + ds.length < s.length := by have : ((at_ + ds.length : Nat) : Int) < (s.length : Int) := h7; omega
            have hcq : s[at_ + ds.length]? = some s[at_ + ds.length] := List.getElem?_eq_getElem hq
            generalize s[at_ + ds.length] = b at hcq
            rw [hcq] at hone
            simp only [Option.map_some, Option.getD_some] at hone
            repeat (first | refine sm rfl ?_ | refine sx rfl rfl rfl rfl (by assumption) ?_)
            refine cle rfl rfl (rletter_ok b.toNat _) ?_
            repeat (first | refine nl ?_ | refine sm rfl ?_)
            refine AWP.cond_bool rfl (fun hg => ?_) (fun hg => AWP.skip ?_)
            · have hg' : isLet b = true := hg
              rw [if_pos hg'] at hone
              rw [hone]
              repeat (refine AWP.seq ?_)
              refine rg ?_
              refine bds (cs := tokRow zTk) rfl rfl rfl rfl ?_
              refine soV rfl rfl rfl rfl rfl rfl ?_
              repeat (first | refine nl ?_ | refine sm rfl ?_)
              exact AWP.ret (rets (resCW rfl (St.obj_set _ _ _) rfl rfl rfl rfl) (.refl _) (StLe.new ho6 (.refl _)) ⟨rfl, rfl⟩)
            · have hg' : ¬ isLet b = true := by rw [show isLet b = false from (by simpa using hg : letA b.toNat = false)]; decide
              rw [if_neg hg'] at hone
              rw [hone]
              repeat (first | refine AWP.seq ?_ | refine rg ?_ | refine sm rfl ?_)
              refine bds (cs := tokRow ⟨2, line, [], digits ds⟩) rfl rfl rfl rfl ?_
              repeat (refine sm rfl ?_)
              refine soV rfl rfl rfl rfl rfl rfl ?_
              repeat (first | refine nl ?_ | refine sm rfl ?_)
              exact AWP.ret (rets (resCW rfl (St.obj_set _ _ _) rfl rfl rfl rfl) (.refl _) (StLe.new ho6 (.refl _)) ⟨rfl, rfl⟩)
          · have hn : s[at_ + ds.length]? = none := List.getElem?_eq_none (by have : ¬ ((at_ + ds.length : Nat) : Int) < (s.length : Int) := h7; omega)
            rw [hn] at hone
            simp only [Option.map_none, Option.getD_none] at hone
            rw [if_neg (by decide)] at hone
            rw [hone]
            repeat (first | refine nl ?_ | refine sm rfl ?_ | refine uw rfl ?_)
            refine AWP.cond_false rfl (AWP.skip ?_)
            repeat (first | refine AWP.seq ?_ | refine rg ?_ | refine sm rfl ?_)
            refine bds (cs := tokRow ⟨2, line, [], digits ds⟩) rfl rfl rfl rfl ?_
            repeat (refine sm rfl ?_)
            refine soV rfl rfl rfl rfl rfl rfl ?_
            repeat (first | refine nl ?_ | refine sm rfl ?_)
            exact AWP.ret (rets (resCW rfl (St.obj_set _ _ _) rfl rfl rfl rfl) (.refl _) (StLe.new ho6 (.refl _)) ⟨rfl, rfl⟩)
    · have hcd : isDig c = false := (by simpa using hb2 : digA c.toNat = false)
      rw [hcd, cond_false] at hone
      repeat (first | refine AWP.seq ?_ | refine rg ?_ | refine sm rfl ?_)
      refine cle rfl rfl (rsign_ok s hs at_ hat _) ?_
      have hsl := sign_le (s.drop at_)
      rw [List.length_drop] at hsl
      generalize sign (s.drop at_) = sg at hone hsl
      repeat (first | refine nl ?_ | refine AWP.seq ?_ | refine rg ?_ | refine sm rfl ?_)
      refine AWP.cond_dec rfl (fun h3 => ?_) (fun h3 => AWP.skip ?_)
      · have h3' : sg = [] := h3
        rw [if_pos h3'] at hone
        rw [hone]
        repeat (refine AWP.seq ?_)
        refine rg ?_
        refine bds (cs := tokRow zTk) rfl rfl rfl rfl ?_
        refine soV rfl rfl rfl rfl rfl rfl ?_
        repeat (first | refine nl ?_ | refine sm rfl ?_)
        exact AWP.ret (rets (resCW rfl (St.obj_set _ _ _) rfl rfl rfl rfl) (.refl _) (StLe.new ho6 (.refl _)) ⟨rfl, rfl⟩)
      · have h3' : ¬ sg = [] := h3
        rw [if_neg h3'] at hone
        rw [hone]
        repeat (first | refine AWP.seq ?_ | refine rg ?_ | refine sm rfl ?_)
        refine bds (cs := tokRow ⟨4, line, sg, 0⟩) rfl rfl rfl rfl ?_
        repeat (first | refine sm rfl ?_ | refine lns rfl rfl ?_ | refine adn rfl rfl rfl (by omega) ?_)
        refine soV rfl rfl rfl rfl rfl rfl ?_
        repeat (first | refine nl ?_ | refine sm rfl ?_)
        exact AWP.ret (rets (resCW rfl (St.obj_set _ _ _) rfl rfl rfl rfl) (.refl _) (StLe.new ho6 (.refl _)) ⟨rfl, rfl⟩)
end Go.Proofs
/- The walk of the reference lexer's Scan. No conditions: lemmas only. -/
namespace Go.Proofs
open Go.AM

theorem skipAt_tail (s : List UInt8) (p line : Nat) (hp : p ≤ s.length) : s.drop (skipAt s p line) = (skip false (s.drop p) line).1 ∧ skipAt s p line ≤ s.length ∧ p ≤ skipAt s p line ∧ (skip false (s.drop p) line).2 ≤ 1000000 + skipAt s p line ∨ 1000000 + p < line := by
  rcases Nat.lt_or_ge (1000000 + p) line with h | h
  · exact .inr h
  · left
    obtain ⟨w1, w2, w3, w4⟩ := skip_le false (s.drop p) line
    have w6 := skip_sum false (s.drop p) line
    have w7 := skip_tail (s.drop p) line
    rw [List.length_drop] at w1 w2 w6 w7
    rw [List.drop_drop] at w7
    unfold skipAt
    refine ⟨?_, by omega, by omega, by omega⟩
    rw [← w7]
    congr 1
    rw [w7]
    omega

set_option maxHeartbeats 4000000 in
theorem rscan_ok (s : List UInt8) (hs : s.length ≤ 140737488351232) (st : St) : ACalls Tryd.prog 19 [.str s] st (fun v st' => v = scanV (scan s) ∧ st' = st) (fun _ _ => False) := by
  refine ACalls.ofBody Tryd.func19 rfl Tryd.ntmps19 rfl ?_
  repeat (first | refine nl ?_ | refine AWP.seq ?_ | refine rg ?_ | refine sm rfl ?_ | refine lns rfl rfl ?_)
  refine AWP.cond_dec rfl (fun h => ?_) (fun h => AWP.skip ?_)
  · have h' : 4000 < s.length := by have : (4000 : Int) < (s.length : Int) := h; omega
    repeat (first | refine nl ?_ | refine AWP.seq ?_ | refine rg ?_ | refine sm rfl ?_)
    refine AWP.ret (rets rfl (Le.tri (.nilShared 0 4) (.refl _) (.refl _)) (.refl _) ⟨?_, rfl⟩)
    rw [scan, if_pos h']
    rfl
  · have h' : s.length ≤ 4000 := by have : ¬ (4000 : Int) < (s.length : Int) := h; omega
    have hscan : scan s = scanL (s.length + 1) (skip false s 1).1 (skip false s 1).2 [] := by rw [scan, if_neg (by omega)]
    repeat (refine AWP.seq ?_)
    refine rg ?_
    refine sm rfl ?_
    refine nl ?_
    refine AWP.nilTok 5 36 4 rfl fun tk htk => ?_
    repeat (first | refine AWP.seq ?_ | refine rg ?_ | refine sm rfl ?_)
    refine cle rfl rfl (rskip_ok s (by omega) 0 1 (Nat.zero_le _) (by omega) _) ?_
    have hsk := skipAt_tail s 0 1 (Nat.zero_le _)
    rw [List.drop_zero] at hsk ⊢
    obtain ⟨k1, k2, k3, k4⟩ := hsk.resolve_right (by omega)
    generalize skipAt s 0 1 = p0 at k1 k2 k3 k4
    rw [← k1] at hscan
    generalize (skip false s 1).2 = l0 at hscan k4
    repeat (first | refine nl ?_ | refine AWP.seq ?_ | refine AWP.block ?_ | refine sm rfl ?_)
    refine AWP.loop (α := Nat × Nat × Nat × List Tk × Nat)
      (fun x => [(7, .int .i64 (x.2.2.1 : Int)), (6, .int .i64 (x.2.1 : Int)), (5, .view 4 (x.2.2.2.1.map tokRow) (.own x.2.2.2.2 36)), (0, .str s)])
      (fun x => st.addTok x.2.2.2.2)
      (fun x => x.2.1 ≤ s.length ∧ x.2.2.1 ≤ 1000000 + x.2.1 ∧ scan s = scanL x.1 (s.drop x.2.1) x.2.2.1 x.2.2.2.1 ∧ s.length - x.2.1 < x.1 ∧ x.2.2.2.1.length ≤ 2000 ∧ st.tok x.2.2.2.2 = false) (fun x => x.1)
      (s.length + 1, p0, l0, [], tk) ⟨k2, k4, hscan, by simp only; omega, by simp, htk⟩ (tl4 rfl rfl rfl rfl) (.refl _) ?_
    rintro ⟨fuel, pos, line, out, tk⟩ ⟨h1, h2, h3, h4, h5, h6⟩
    simp only at h1 h2 h3 h4 h5 h6
    refine AWP.weaken (T' := [(7, .int .i64 (line : Int)), (6, .int .i64 (pos : Int)), (5, .view 4 (out.map tokRow) (.own tk 36)), (0, .str s)]) (st' := st.addTok tk) (tl4 rfl rfl rfl rfl) (.refl _) ?_
    repeat (first | refine nl ?_ | refine AWP.seq ?_ | refine rg ?_ | refine sm rfl ?_ | refine lns rfl rfl ?_)
    refine AWP.cond_dec rfl (fun h => AWP.skip ?_) (fun h => AWP.exit (blk_hit ?_))
    · have hlt : pos < s.length := by have : (pos : Int) < (s.length : Int) := h; omega
      obtain ⟨fuel, rfl⟩ : ∃ k, fuel = k + 1 := ⟨fuel - 1, by omega⟩
      have hd : s.drop pos = s[pos] :: s.drop (pos + 1) := List.drop_eq_getElem_cons hlt
      have hstep : scan s = match one (s.drop pos) line with
          | .error e => ([], line, e)
          | .ok (t, m) => if 2000 ≤ out.length then ([], line, 5) else scanL fuel (skip false ((s.drop pos).drop m) line).1 (skip false ((s.drop pos).drop m) line).2 (out ++ [t]) := by
        rw [h3, hd]
        rfl
      clear h3
      repeat (first | refine AWP.seq ?_ | refine rg ?_ | refine AWP.block ?_ | refine sm rfl ?_)
      refine cle rfl rfl (rone_ok s (by omega) pos line hlt _) ?_
      cases ho : one (s.drop pos) line with
      | error e =>
        rw [ho] at hstep
        refine AOps.weaken (T' := [(27, roneV pos (.error e)), (7, .int .i64 (line : Int)), (5, .view 4 (out.map tokRow) (.own tk 36)), (0, .str s)]) (tl4 rfl rfl rfl rfl) (.refl _) ?_
        unfold roneV
        repeat (refine sm rfl ?_)
        refine al rfl rfl fun o8 ho8 => ?_
        refine soN 8 rfl rfl rfl rfl rfl rfl ho8 ?_
        have he := one_err ho
        repeat (first | refine nl ?_ | refine AWP.seq ?_ | refine rg ?_ | refine sm rfl ?_)
        refine AOps.split 33 rfl (fun h8 => absurd (show (e : Int) = 0 from h8) (by omega)) (fun _ => ?_)
        repeat (first | refine nl ?_ | refine sm rfl ?_ | refine uw rfl ?_)
        refine AWP.cond_false rfl (AWP.skip ?_)
        repeat (first | refine nl ?_ | refine AWP.seq ?_ | refine rg ?_ | refine sm rfl ?_)
        refine AWP.cond_dec rfl (fun _ => ?_) (fun h8 => absurd (show (e : Int) ≠ 0 by omega) h8)
        repeat (first | refine nl ?_ | refine AWP.seq ?_ | refine rg ?_ | refine sm rfl ?_)
        refine AWP.ret (rets rfl (Le.tri (.nilShared 0 4) (.refl _) (.refl _)) (StLe.addTok _ (.refl _)) ⟨?_, rfl⟩)
        rw [hstep]
        rfl
      | ok p =>
        obtain ⟨t, m⟩ := p
        rw [ho] at hstep
        simp only at hstep
        obtain ⟨m1, m2, m3⟩ := one_ok ho
        rw [List.length_drop] at m2
        refine AOps.weaken (T' := [(27, roneV pos (.ok (t, m))), (7, .int .i64 (line : Int)), (5, .view 4 (out.map tokRow) (.own tk 36)), (0, .str s)]) (tl4 rfl rfl rfl rfl) (.refl _) ?_
        unfold roneV
        repeat (refine sm rfl ?_)
        refine al rfl rfl fun o8 ho8 => ?_
        refine soN 8 rfl rfl rfl rfl rfl rfl ho8 ?_
        repeat (first | refine nl ?_ | refine AWP.seq ?_ | refine rg ?_ | refine sm rfl ?_ | refine lnv rfl rfl ?_)
        refine AWP.cond_dec rfl (fun h8 => ?_) (fun h8 => AWP.skip ?_)
        · have hge : 2000 ≤ out.length := by
            rw [List.length_map] at h8
            omega
          rw [if_pos hge] at hstep
          repeat (first | refine nl ?_ | refine AWP.seq ?_ | refine rg ?_ | refine sm rfl ?_)
          refine AWP.cond_true rfl ?_
          repeat (first | refine nl ?_ | refine AWP.seq ?_ | refine rg ?_ | refine sm rfl ?_)
          refine AWP.ret (rets rfl (Le.tri (.nilShared 0 4) (.refl _) (.refl _)) (StLe.addTok _ (.refl _)) ⟨?_, rfl⟩)
          rw [hstep]
          rfl
        · have hge : ¬ 2000 ≤ out.length := by
            rw [List.length_map] at h8
            omega
          rw [if_neg hge] at hstep
          repeat (first | refine nl ?_ | refine AWP.seq ?_ | refine rg ?_ | refine sm rfl ?_)
          refine AWP.cond_false rfl (AWP.skip ?_)
          repeat (first | refine AWP.seq ?_ | refine rg ?_ | refine sm rfl ?_ | refine leW rfl rfl rfl rfl rfl ?_ | refine bs1 rfl rfl rfl rfl rfl rfl ?_)
          refine ap rfl rfl rfl (St.tok_addTok _ _) rfl (by simp only [List.length_cons, List.length_nil, List.length_map]; omega) (by simp only [List.length_cons, List.length_nil, List.length_map, maxLen]; omega) fun tk' htk' => ?_
          have hm : out.map tokRow ++ [(AV.agg (AV.agg (tokRow t)).cells).cells] = (out ++ [t]).map tokRow := by rw [List.map_append]; rfl
          rw [hm]
          have htk2 : st.tok tk' = false := St.tok_of_add (st := st) htk'
          repeat (first | refine nl ?_ | refine rg ?_ | refine sm rfl ?_)
          have hdd : (s.drop pos).drop m = s.drop (pos + m) := List.drop_drop ..
          rw [hdd] at hstep
          refine cle rfl rfl (rskip_ok s (by omega) (pos + m) line (by omega) (by omega) _) ?_
          obtain ⟨w1, w2, w3, w4⟩ := (skipAt_tail s (pos + m) line (by omega)).resolve_right (by omega)
          generalize skipAt s (pos + m) line = p' at w1 w2 w3 w4
          rw [← w1] at hstep
          generalize (skip false (s.drop (pos + m)) line).2 = l' at hstep w4
          repeat (first | refine nl ?_ | refine sm rfl ?_)
          exact ⟨(fuel, p', l', out ++ [t], tk'), ⟨w2, w4, hstep, by simp only; omega, by simp only [List.length_append, List.length_cons, List.length_nil]; omega, htk2⟩, by simp only; omega, (tl4 rfl rfl rfl rfl), StLe.reTok h6 tk'⟩
    · have hlt : pos = s.length := by have : ¬ (pos : Int) < (s.length : Int) := h; omega
      subst hlt
      obtain ⟨fuel, rfl⟩ : ∃ k, fuel = k + 1 := ⟨fuel - 1, by omega⟩
      rw [List.drop_length] at h3
      have hstep : scan s = (out ++ [(⟨0, line, [], 0⟩ : Tk)], 0, 0) := h3
      repeat (first | refine AWP.seq ?_ | refine rg ?_ | refine sm rfl ?_)
      refine bds (cs := tokRow ⟨0, line, [], 0⟩) rfl rfl rfl rfl ?_
      repeat (refine bs1 rfl rfl rfl rfl rfl rfl ?_)
      refine ap rfl rfl rfl (St.tok_addTok _ _) rfl (by simp only [List.length_cons, List.length_nil, List.length_map]; omega) (by simp only [List.length_cons, List.length_nil, List.length_map, maxLen]; omega) fun tk' htk' => ?_
      have hm : out.map tokRow ++ [(AV.agg (tokRow ⟨0, line, [], 0⟩)).cells] = (out ++ [(⟨0, line, [], 0⟩ : Tk)]).map tokRow := by rw [List.map_append]; rfl
      rw [hm]
      repeat (first | refine nl ?_ | refine sm rfl ?_)
      refine AWP.ret (rets rfl (Le.tri (.shared _ _ _) (.refl _) (.refl _)) ((StLe.reTok h6 tk').trans (StLe.addTok _ (.refl _))) ⟨?_, rfl⟩)
      rw [hstep]
      rfl
end Go.Proofs
/- The walk of LexerJoins. No conditions: definitions and lemmas only. -/
namespace Go.Proofs
open Go.AM

theorem cellsEq_tok (t : Tk) : cellsEq (tokRow t) (tokRow t) = true := by
  simp [tokRow, cellsEq, avEq]

end Go.Proofs
/- Lists compared, a tape cut, a text scanned twice. No conditions: lemmas only. -/
namespace Go.Proofs
open Go.AM

theorem same_ok (X : List Tk) (k1 k2 : Go.AM.Tok) (hX : X.length ≤ 1000000) (st : St) : ACalls Tryd.prog 17 [.view 4 (X.map tokRow) k1, .view 4 (X.map tokRow) k2] st (fun v st' => v = .bool true ∧ st' = st) (fun _ _ => False) := by
  refine ACalls.ofBody Tryd.func17 rfl Tryd.ntmps17 rfl ?_
  have hl : (X.map tokRow).length = X.length := by simp
  have hx : ∀ i (h : i < X.length), ∃ t : Tk, (X.map tokRow)[i]? = some (tokRow t) := fun i h => ⟨X[i], by rw [List.getElem?_map, List.getElem?_eq_getElem h]; rfl⟩
  generalize X.map tokRow = Y at hl hx
  repeat (first | refine nl ?_ | refine AWP.seq ?_ | refine rg ?_ | refine sm rfl ?_ | refine lnv rfl rfl ?_)
  refine AWP.cond_dec rfl (fun h => absurd rfl h) (fun _ => AWP.skip ?_)
  repeat (first | refine nl ?_ | refine AWP.seq ?_ | refine rg ?_ | refine AWP.block ?_ | refine sm rfl ?_)
  refine AWP.loop (α := Nat) (fun i => [(5, .int .i64 (i : Int)), (1, .view 4 Y k2), (0, .view 4 Y k1)]) (fun _ => st) (fun i => i ≤ Y.length) (fun i => Y.length - i) 0 (Nat.zero_le _) (tl3 rfl rfl rfl) (.refl _) ?_
  intro i hi
  repeat (first | refine nl ?_ | refine AWP.seq ?_ | refine rg ?_ | refine sm rfl ?_ | refine lnv rfl rfl ?_)
  refine AWP.cond_dec rfl (fun h => AWP.skip ?_) (fun h => AWP.exit (blk_hit ?_))
  · have hi' : i < Y.length := by have : (i : Int) < (Y.length : Int) := h; omega
    obtain ⟨t, ht⟩ := hx i (by omega)
    repeat (first | refine AWP.seq ?_ | refine AWP.block ?_)
    refine AWP.draw rfl 8 8 (fun _ _ => False) rfl ?_
    repeat (first | refine ds rfl rfl ?_ | refine dq rfl rfl rfl (fun st1 hle => leW rfl rfl rfl (by assumption) rfl (nl ⟨_, rfl, rfl, rfl⟩)) ?_ | refine dq rfl rfl rfl (fun st1 hle => ix rfl rfl rfl rfl (by assumption) (nl ⟨_, rfl, rfl, rfl⟩)) ?_)
    refine dn ⟨fun _ => ?_, fun h => absurd h (by decide)⟩
    repeat (first | refine nl ?_ | refine neA rfl rfl rfl rfl rfl ?_)
    rw [cellsEq_tok]
    skip
    refine AWP.cond_false rfl (AWP.skip ?_)
    repeat (first | refine nl ?_ | refine rg ?_ | refine sm rfl ?_ | refine inc rfl rfl rfl (by omega) ?_)
    exact ⟨i + 1, hi', by omega, (tl3 rfl rfl rfl), .refl _⟩
  · repeat (first | refine nl ?_ | refine AWP.seq ?_ | refine rg ?_ | refine sm rfl ?_)
    exact AWP.ret (rets rfl (.refl _) (.refl _) ⟨rfl, rfl⟩)

theorem short_ok (l : List Int) (hl : l.length ≤ 17592186043904) (st : St) : ACalls Tryd.prog 12 [.view 1 (l.map fun x => [.int .i64 x]) .shared] st (fun v st' => v = .view 1 ((l.take 200).map fun x => [.int .i64 x]) .shared ∧ st' = st) (fun _ _ => False) := by
  refine ACalls.ofBody Tryd.func12 rfl Tryd.ntmps12 rfl ?_
  have hlen : (l.map fun x => [AV.int .i64 x]).length = l.length := by simp
  repeat (first | refine nl ?_ | refine AWP.seq ?_ | refine rg ?_ | refine sm rfl ?_ | refine lnv rfl rfl ?_)
  refine AWP.cond_dec rfl (fun h => ?_) (fun h => AWP.skip ?_)
  · have h' : 200 ≤ l.length := by have : (200 : Int) < ((l.map fun x => [AV.int .i64 x]).length : Int) := h; omega
    repeat (first | refine AWP.seq ?_ | refine rg ?_ | refine sm rfl ?_)
    refine svh (b := 200) rfl rfl rfl (by omega) ?_
    rw [← List.map_take]
    repeat (first | refine nl ?_ | refine sm rfl ?_)
    exact AWP.ret (rets rfl (.refl _) (.refl _) ⟨rfl, rfl⟩)
  · have h' : l.length ≤ 200 := by have : ¬ (200 : Int) < ((l.map fun x => [AV.int .i64 x]).length : Int) := h; omega
    repeat (first | refine nl ?_ | refine AWP.seq ?_ | refine rg ?_ | refine sm rfl ?_)
    refine AWP.ret (rets rfl (.refl _) (.refl _) ⟨?_, rfl⟩)
    rw [List.take_of_length_le h']
    rfl

theorem scan_small (s : List UInt8) : (scan s).1.length ≤ 2001 := by
  have h : ∀ (k : Nat) (s : List UInt8) (line : Nat) (out : List Tk), out.length ≤ 2000 → (scanL k s line out).1.length ≤ 2001 := by
    intro k
    induction k with
    | zero => intro s line out _; simp [scanL]
    | succ k ih =>
      intro s line out ho
      cases s with
      | nil => simp [scanL]; omega
      | cons c r =>
        rw [scanL]
        split
        · simp
        · split
          · simp
          · exact ih _ _ _ (by simp; omega)
  unfold scan
  split
  · simp
  · exact h _ _ _ _ (by simp)

theorem scans_ok (s : List UInt8) (hs : s.length ≤ 140737488351232) (st : St) (hg1 : st.row 1 = some signRow) (hg0 : st.row 0 = some wordRow) :
    ACalls Tryd.prog 10 [.str s] st (fun v st' => v = .bool true ∧ st' = st) (fun _ _ => False) := by
  refine ACalls.ofBody Tryd.func10 rfl Tryd.ntmps10 rfl ?_
  have hsm := scan_small s
  have h1 := scan_ok s st hg1 hg0
  have h2 := rscan_ok s hs st
  generalize scan s = q at hsm h1 h2
  obtain ⟨ts, l, e⟩ := q
  repeat (first | refine nl ?_ | refine AWP.seq ?_ | refine rg ?_ | refine sm rfl ?_)
  refine cle rfl rfl h1 ?_
  unfold scanV
  repeat (first | refine nl ?_ | refine AWP.seq ?_ | refine rg ?_ | refine sm rfl ?_)
  refine cle rfl rfl h2 ?_
  unfold scanV
  repeat (first | refine nl ?_ | refine AWP.seq ?_ | refine rg ?_ | refine sm rfl ?_)
  refine cle rfl rfl (same_ok ts .shared .shared (by simp only at hsm; omega) st) ?_
  repeat (refine sm rfl ?_)
  refine AOps.split 29 rfl (fun _ => ?_) (fun h => absurd rfl h)
  repeat (first | refine nl ?_ | refine sm rfl ?_)
  refine AWP.ret (rets rfl (.refl _) (.refl _) ⟨?_, rfl⟩)
  simp [packA]
end Go.Proofs
/- Regions that draw their order, every operation keeping an invariant of the state. No conditions: definitions and lemmas only. -/
namespace Go.AM
open Go.RowKit (Below)

section
variable {P : Program} {n : Nat} {K : Post} {E : EPost} {T : Tmps} {st : St}

/-- From every state of the invariant to one of it, the outcome as told. -/
def EffI (P : Program) (n : Nat) (I : St → Prop) (T : Tmps) (o : Oper) (Q : AV → Prop) : Prop :=
  ∀ st g w a (K' : Act → World → Prop) (Q' : Exit → Act → World → Prop), I st → Sim g w st → Known g w T a → a.tmps.size = n →
    (∀ rv g' w' v st1, Ext g w g' w' → Sim g' w' st1 → R g' w' v rv → Q v → I st1 → K' (a.put o.dst rv) w') → o.wp P a w K' Q'

def StepI (P : Program) (n : Nat) (I : St → Prop) (ops : Array Oper) (T : Tmps) (o : Oper) (Q : AV → Prop) : Prop :=
  (wantedA ops T o = some true ∧ EffI P n I T o Q) ∨ (wantedA ops T o = some false ∧ Q (.lit undef))

/-- The walk in the text's order; behind it k. -/
def DRunI (P : Program) (n : Nat) (I : St → Prop) (ops : Array Oper) : List Oper → List (AV → Prop) → Tmps → (Tmps → St → Prop) → Prop
  | [], [], T, k => ∀ st, I st → k T st
  | o :: r, Q :: Qs, T, k => ∃ d, o.dst = some d ∧ Nat.blt d n = true ∧ (∃ u, Q u) ∧ StepI P n I ops (see ops o T) o Q ∧ ∀ u, Q u → DRunI P n I ops r Qs ((d, u) :: T) k
  | _, _, _, _ => False

/-- The entries of the first i operations. -/
def ents (l : List Oper) (us : Nat → AV) : Nat → Tmps
  | 0 => []
  | i + 1 => match (l[i]?).bind (·.dst) with
    | some d => (d, us i) :: ents l us i
    | none => ents l us i

theorem DRunI.out {I : St → Prop} {ops : Array Oper} {k : Tmps → St → Prop} (us : Nat → AV) (l : List Oper) : ∀ (r : List Oper) (Qs : List (AV → Prop)) (i0 : Nat), (∀ (i : Nat) (o : Oper), r[i]? = some o → l[i0 + i]? = some o) → (∀ (i : Nat) (Q : AV → Prop), Qs[i]? = some Q → Q (us (i0 + i))) →
    DRunI P n I ops r Qs (ents l us i0 ++ T) k → Qs.length = r.length ∧ (∀ st, I st → k (ents l us (i0 + r.length) ++ T) st) ∧
      ∀ i o, r[i]? = some o → ∃ d Q, o.dst = some d ∧ d < n ∧ Qs[i]? = some Q ∧ StepI P n I ops (see ops o (ents l us (i0 + i) ++ T)) o Q
  | [], [], i0, _, _, h => ⟨rfl, h, fun i o ho => by simp at ho⟩
  | [], _ :: _, _, _, _, h => h.elim
  | _ :: _, [], _, _, _, h => h.elim
  | o :: r, Q :: Qs, i0, hl, hq, h => by
    obtain ⟨d, h1, h2, _, h4, h5⟩ := h
    have h6 := h5 (us i0) (hq 0 Q rfl)
    have hl0 : l[i0]? = some o := by simpa using hl 0 o rfl
    have he : (d, us i0) :: (ents l us i0 ++ T) = ents l us (i0 + 1) ++ T := by
      rw [ents, hl0]
      simp only [Option.bind_some, h1, List.cons_append]
    rw [he] at h6
    obtain ⟨a1, a2, a3⟩ := DRunI.out us l r Qs (i0 + 1) (fun i o' ho' => by have := hl (i + 1) o' (by simpa using ho'); rwa [show i0 + (i + 1) = i0 + 1 + i by omega] at this) (fun i Q' hQ' => by have := hq (i + 1) Q' (by simpa using hQ'); rwa [show i0 + (i + 1) = i0 + 1 + i by omega] at this) h6
    refine ⟨by simp [a1], by rw [List.length_cons, show i0 + (r.length + 1) = i0 + 1 + r.length by omega]; exact a2, fun i o' ho' => ?_⟩
    cases i with
    | zero =>
      simp only [List.getElem?_cons_zero, Option.some.injEq] at ho'
      subst ho'
      exact ⟨d, Q, h1, by simpa using h2, rfl, h4⟩
    | succ i =>
      obtain ⟨d', Q', b1, b2, b3, b4⟩ := a3 i o' (by simpa using ho')
      exact ⟨d', Q', b1, b2, by simpa using b3, by rwa [show i0 + 1 + i = i0 + (i + 1) by omega] at b4⟩

/-- Values that fit, for all numbers. -/
theorem DRunI.fits {I : St → Prop} {ops : Array Oper} {k : Tmps → St → Prop} : ∀ (r : List Oper) (Qs : List (AV → Prop)) (T : Tmps), DRunI P n I ops r Qs T k → ∀ (i : Nat) (Q : AV → Prop), Qs[i]? = some Q → ∃ u, Q u
  | [], [], _, _, i, Q, h => by simp at h
  | [], _ :: _, _, h, _, _, _ => h.elim
  | _ :: _, [], _, h, _, _, _ => h.elim
  | o :: r, Q0 :: Qs, T, h, i, Q, hq => by
    obtain ⟨d, h1, h2, ⟨u, hu⟩, h4, h5⟩ := h
    cases i with
    | zero => simp at hq; subst hq; exact ⟨u, hu⟩
    | succ i => exact DRunI.fits r Qs _ (h5 u hu) i Q (by simpa using hq)

/-- An entry of ents, told by its number. -/
theorem ents_get {l : List Oper} {us : Nat → AV} : ∀ (i : Nat) (t : Nat) (v : AV), Tmps.get (ents l us i) t = some v → ∃ j, j < i ∧ (l[j]?).bind (·.dst) = some t ∧ v = us j
  | 0, t, v, h => by cases h
  | i + 1, t, v, h => by
    unfold ents at h
    cases hd : (l[i]?).bind (·.dst) with
    | none =>
      rw [hd] at h
      obtain ⟨j, h1, h2, h3⟩ := ents_get i t v h
      exact ⟨j, by omega, h2, h3⟩
    | some d =>
      rw [hd] at h
      simp only at h
      rw [Tmps.get_cons] at h
      by_cases hdt : d = t
      · rw [if_pos hdt] at h
        cases h
        exact ⟨i, by omega, by rw [hd, hdt], rfl⟩
      · rw [if_neg hdt] at h
        obtain ⟨j, h1, h2, h3⟩ := ents_get i t v h
        exact ⟨j, by omega, h2, h3⟩

theorem ents_none {l : List Oper} {us : Nat → AV} : ∀ (i : Nat) (t : Nat), Tmps.get (ents l us i) t = none → ∀ j, j < i → (l[j]?).bind (·.dst) ≠ some t
  | 0, t, _, j, h => by omega
  | i + 1, t, h, j, hj => by
    unfold ents at h
    cases hd : (l[i]?).bind (·.dst) with
    | none =>
      rw [hd] at h
      rcases Nat.lt_or_ge j i with h1 | h1
      · exact ents_none i t h j h1
      · have : j = i := by omega
        subst this
        rw [hd]
        simp
    | some d =>
      rw [hd] at h
      simp only at h
      rw [Tmps.get_cons] at h
      by_cases hdt : d = t
      · rw [if_pos hdt] at h; cases h
      · rw [if_neg hdt] at h
        rcases Nat.lt_or_ge j i with h1 | h1
        · exact ents_none i t h j h1
        · have : j = i := by omega
          subst this
          rw [hd]
          simpa using hdt

/-- A region that draws its order, every operation keeping the invariant. -/
theorem AWP.drawI {l : List Oper} {id : Nat} (hm : P.follows .mixedOrders = true) (k : Nat) (I : St → Prop) (Qs : List (AV → Prop)) (hok : drawOk l k l.length = true) (hI : I st)
    (h : DRunI P n I l.toArray (l.take k) Qs T fun T' st' => AOps P n l.toArray (l.drop k) K E T' st') : AWP P n (.region id l.toArray true) K E T st := by
  obtain ⟨hkl, hedge, hbody, htail⟩ := drawOk_spec hok
  have hfits := DRunI.fits _ _ _ h
  have hout := fun (us : Nat → AV) (hus : ∀ (i : Nat) (Q : AV → Prop), Qs[i]? = some Q → Q (us (0 + i))) => DRunI.out (T := T) us l (l.take k) Qs 0 (fun i o ho => by
    have hi : i < k := by have := (List.getElem?_eq_some_iff.1 ho).1; simp at this; omega
    rw [List.getElem?_take_of_lt hi] at ho
    rwa [Nat.zero_add]) hus h
  have hlk0 : (l.take k).length = k := by simp; omega
  -- some values that fit
  obtain ⟨wit, hwit⟩ : ∃ wit : Nat → AV, ∀ (i : Nat) (Q : AV → Prop), Qs[i]? = some Q → Q (wit i) := by
    have : ∀ i : Nat, ∃ u : AV, ∀ Q : AV → Prop, Qs[i]? = some Q → Q u := fun i => by
      cases hq : Qs[i]? with
      | none => exact ⟨.bool true, fun Q h => by cases h⟩
      | some Q =>
        obtain ⟨u, hu⟩ := hfits i Q hq
        exact ⟨u, fun Q' h => by cases h; exact hu⟩
    exact ⟨fun i => Classical.choose (this i), fun i Q hQ => Classical.choose_spec (this i) Q hQ⟩
  have hQl : Qs.length = k := by rw [(hout wit (fun i Q hQ => by rw [Nat.zero_add]; exact hwit i Q hQ)).1, hlk0]
  intro g0 w0 a0 hs0 hk0 hn0
  refine wp_region_any hm ?_
  obtain ⟨hed, hsd⟩ := hs0.draw
  let Inv : Array Bool → Act → World → Prop := fun listed a w => listed.size = l.length ∧ Closed l listed ∧ (∀ j, k ≤ j → j < l.length → listed.getD j true = false) ∧ a.tmps.size = n ∧ a.defers = a0.defers ∧
    ∃ g st1, Ext g0 w0 g w ∧ Sim g w st1 ∧ I st1 ∧
      (∀ t v, Tmps.get T t = some v → (∀ i, i < k → (l[i]?).bind (·.dst) = some t → listed.getD i false = false) → ∃ rv, a.tmps[t]? = some rv ∧ R g w v rv) ∧
      (∀ i d Q, i < k → (l[i]?).bind (·.dst) = some d → Qs[i]? = some Q → listed.getD i false = true → ∃ u rv, Q u ∧ a.tmps[d]? = some rv ∧ R g w u rv)
  let μ : Array Bool → Nat := fun listed => (List.range l.length).countP fun j => !listed.getD j true
  have hμ : ∀ (listed : Array Bool) i, i < l.length → listed.size = l.length → listed.getD i true = false → μ (listed.setIfInBounds i true) + 1 ≤ μ listed := by
    intro listed i hil hsz hi
    have gen : ∀ (A : List Nat), i ∈ A → A.countP (fun j => !(listed.setIfInBounds i true).getD j true) + 1 ≤ A.countP (fun j => !listed.getD j true) := by
      have le : ∀ (A : List Nat), A.countP (fun j => !(listed.setIfInBounds i true).getD j true) ≤ A.countP (fun j => !listed.getD j true) := fun A => List.countP_mono_left fun j _ hj => by
        by_cases hij : i = j
        · subst hij
          rw [Array.getD_eq_getD_getElem?, Array.getElem?_setIfInBounds_self_of_lt (by omega)] at hj
          simp at hj
        · rw [getD_set_ne true hij] at hj; exact hj
      intro A
      induction A with
      | nil => intro h; simp at h
      | cons x A ih =>
        intro h
        rw [List.countP_cons, List.countP_cons]
        by_cases hx : x = i
        · subst hx
          have h1 : (!(listed.setIfInBounds x true).getD x true) = false := by
            rw [Array.getD_eq_getD_getElem?, Array.getElem?_setIfInBounds_self_of_lt (by omega)]; rfl
          have h2 : (!listed.getD x true) = true := by rw [hi]; rfl
          rw [h1, h2, if_neg (by decide), if_pos rfl]
          have := le A
          omega
        · have hm' : i ∈ A := by rcases List.mem_cons.1 h with h | h; exact absurd h.symm hx; exact h
          have := ih hm'
          have h3 : (listed.setIfInBounds i true).getD x true = listed.getD x true := getD_set_ne true (Ne.symm hx)
          rw [h3]
          omega
    exact gen _ (List.mem_range.2 hil)
  -- values that are there
  have choose : ∀ (listed : Array Bool) (a : Act) (g : G) (w : World), (∀ i d Q, i < k → (l[i]?).bind (·.dst) = some d → Qs[i]? = some Q → listed.getD i false = true → ∃ u rv, Q u ∧ a.tmps[d]? = some rv ∧ R g w u rv) →
      ∃ us : Nat → AV, (∀ (i : Nat) (Q : AV → Prop), Qs[i]? = some Q → Q (us i)) ∧ ∀ i d, i < k → (l[i]?).bind (·.dst) = some d → listed.getD i false = true → ∃ rv, a.tmps[d]? = some rv ∧ R g w (us i) rv := by
    intro listed a g w hB
    have : ∀ i : Nat, ∃ u : AV, (∀ Q : AV → Prop, Qs[i]? = some Q → Q u) ∧ ∀ d, i < k → (l[i]?).bind (·.dst) = some d → listed.getD i false = true → ∃ rv, a.tmps[d]? = some rv ∧ R g w u rv := fun i => by
      by_cases hc : i < k ∧ listed.getD i false = true
      · obtain ⟨hik, hli⟩ := hc
        have hd := (hbody i l[i] (List.getElem?_eq_getElem (by omega)) hik).1
        obtain ⟨d, hd⟩ := Option.isSome_iff_exists.1 hd
        have hd' : (l[i]?).bind (·.dst) = some d := by rw [List.getElem?_eq_getElem (by omega)]; exact hd
        have hq : Qs[i]? = some (Qs[i]'(by omega)) := List.getElem?_eq_getElem _
        obtain ⟨u, rv, h1, h2, h3⟩ := hB i d _ hik hd' hq hli
        refine ⟨u, fun Q h => by rw [hq] at h; cases h; exact h1, fun d' _ hd2 _ => ?_⟩
        rw [hd'] at hd2
        cases hd2
        exact ⟨rv, h2, h3⟩
      · exact ⟨wit i, hwit i, fun d h1 _ h2 => absurd ⟨h1, h2⟩ hc⟩
    exact ⟨fun i => Classical.choose (this i), fun i => (Classical.choose_spec (this i)).1, fun i => (Classical.choose_spec (this i)).2⟩
  -- what is seen of a walk's entries is known
  have done : ∀ (m : Nat) (listed : Array Bool) (a : Act) (w : World), Inv listed a w → (∀ j, j < k → listed.getD j true = true) → l.length ≤ k + m → wpAny P .any l.toArray (QOf n a0.defers g0 w0 K E) m listed a w := by
    intro m listed a w ⟨hsz, hcl, htl, hn, hd, g, st1, he, hs, hI1, hA, hB⟩ hall hm'
    have hlist : ∀ j, j < k → listed.getD j false = true := fun j hj => by
      have h1 := hall j hj
      rw [Array.getD_eq_getD_getElem?, Array.getElem?_eq_getElem (by omega)] at h1 ⊢
      simpa using h1
    refine wpAny_tail hedge k htail m k listed a w (Nat.le_refl _) hkl hm' hsz (fun j hj => ?_) hcl ?_
    · by_cases hjk : j < k
      · rw [hall j hjk, decide_eq_true hjk]
      · rw [htl j (by omega) hj, decide_eq_false hjk]
    · obtain ⟨us, hus, hus2⟩ := choose listed a g w hB
      obtain ⟨_, hfin, _⟩ := hout us (fun i Q hQ => by rw [Nat.zero_add]; exact hus i Q hQ)
      rw [hlk0, Nat.zero_add] at hfin
      have h5 := hfin st1 hI1 g w a hs (fun t u hu => by
        rw [get_append] at hu
        cases hg : Tmps.get (ents l us k) t with
        | some u' =>
          rw [hg] at hu
          cases hu
          obtain ⟨j, hj, hdj, rfl⟩ := ents_get k t _ hg
          exact hus2 j t hj hdj (hlist j hj)
        | none =>
          rw [hg] at hu
          exact hA t u hu fun i hi hit => absurd hit (ents_none k t hg i hi)) hn
      rw [hd] at h5
      exact wpList_mono (fun _ _ _ q => QOf.ext he q) _ _ _ h5
  -- a step of the body
  have step : ∀ (K' : Act → World → Prop) (listed : Array Bool) (a : Act) (w : World) (i : Nat), Inv listed a w → i < k → i ∈ Region.ready .any l.toArray listed → (∀ a' w', Inv (listed.setIfInBounds i true) a' w' → K' a' w') →
      wpOp P l.toArray (QOf n a0.defers g0 w0 K E) i K' a w := by
    intro K' listed a w i ⟨hsz, hcl, htl, hn, hd, g, st1, he, hs, hI1, hA, hB⟩ hik hri hK
    obtain ⟨hun, o, ho, hed'⟩ := ready_edges hri
    have hil := (List.getElem?_eq_some_iff.1 ho).1
    have hunf : listed.getD i false = false := by
      rw [Array.getD_eq_getD_getElem?, Array.getElem?_eq_getElem (by omega)] at hun ⊢
      simpa using hun
    have hcl' := hcl.set ho hed'
    have hsz' : (listed.setIfInBounds i true).size = l.length := by simpa using hsz
    have htl' : ∀ j, k ≤ j → j < l.length → (listed.setIfInBounds i true).getD j true = false := fun j h1 h2 => by
      rw [getD_set_ne true (by omega)]; exact htl j h1 h2
    obtain ⟨us, hus, hus2⟩ := choose listed a g w hB
    obtain ⟨_, _, hops⟩ := hout us (fun i Q hQ => by rw [Nat.zero_add]; exact hus i Q hQ)
    obtain ⟨d, Q, hod, hdn, hQi, hstep⟩ := hops i o (by rw [List.getElem?_take_of_lt hik]; exact ho)
    rw [Nat.zero_add] at hstep
    -- the entries of others that are seen are there
    have hlooked : ∀ j, j < k → ∀ t, (l[j]?).bind (·.dst) = some t → (o.looksAt l.toArray).contains t = true → listed.getD j false = true ∧ j < i := by
      intro j hj t hjt hlook
      have hp : l[j]? = some l[j] := List.getElem?_eq_getElem (by omega)
      rw [hp] at hjt
      have h2 := (((hbody i o ho hik).2 j _ hj hp).2 t hjt hlook).2
      refine ⟨h2 listed hcl hed', ?_⟩
      have hcl2 : Closed l (Array.ofFn fun q : Fin l.length => decide (q.val < i)) := by
        intro q oq hq hq' x hx'
        have hql := (List.getElem?_eq_some_iff.1 hq).1
        rw [Array.getD_eq_getD_getElem?, Array.getElem?_ofFn] at hq' ⊢
        simp only [hql, dif_pos, Option.getD_some, decide_eq_true_eq] at hq'
        have hxq := hedge q oq hq x hx'
        simp only [show x < l.length by omega, dif_pos, Option.getD_some, decide_eq_true_eq]
        omega
      have h3 := h2 _ hcl2 (fun x hx' => by
        have hxi := hedge i o ho x hx'
        rw [Array.getD_eq_getD_getElem?, Array.getElem?_ofFn]
        simp only [show x < l.length by omega, dif_pos, Option.getD_some, decide_eq_true_eq]
        exact hxi)
      rw [Array.getD_eq_getD_getElem?, Array.getElem?_ofFn] at h3
      simp only [show j < l.length by omega, dif_pos, Option.getD_some, decide_eq_true_eq] at h3
      exact h3
    have hknown : Known g w (see l.toArray o (ents l us i ++ T)) a := fun t v ht => by
      obtain ⟨hlook, hget⟩ := get_filter _ _ _ _ ht
      rw [get_append] at hget
      cases hg : Tmps.get (ents l us i) t with
      | some u' =>
        rw [hg] at hget
        cases hget
        obtain ⟨j, hj, hdj, rfl⟩ := ents_get i t _ hg
        exact hus2 j t (by omega) hdj (hlooked j (by omega) t hdj hlook).1
      | none =>
        rw [hg] at hget
        refine hA t v hget fun j hj hjt => ?_
        have h1 := hlooked j hj t hjt hlook
        exact absurd hjt (ents_none i t hg j h1.2)
    have hother : ∀ t, t ≠ d → ∀ rv', (a.put o.dst rv').tmps[t]? = a.tmps[t]? := fun t ht rv' => by
      rw [hod]
      simp only [Act.put, Array.getElem?_setIfInBounds]
      rw [if_neg (Ne.symm ht)]
    have hself : ∀ rv', (a.put o.dst rv').tmps[d]? = some rv' := fun rv' => by
      rw [hod]
      simp only [Act.put, Array.getElem?_setIfInBounds]
      simp [hn, hdn]
    have hdi : (l[i]?).bind (·.dst) = some d := by rw [ho]; exact hod
    have after : ∀ v rv g' w' st2, Ext g w g' w' → Sim g' w' st2 → R g' w' v rv → Q v → I st2 → Inv (listed.setIfInBounds i true) (a.put o.dst rv) w' := by
      intro v rv g' w' st2 he' hs' hR hQv hI2
      refine ⟨hsz', hcl', htl', by rw [Act.size_put]; exact hn, by rw [Act.defers_put]; exact hd, g', st2, he.trans he', hs', hI2, fun t u ht hwr => ?_, fun j d' Q' hj hjd hjQ hjl => ?_⟩
      · have htd : t ≠ d := fun htd => by
          have := hwr i hik (by rw [htd]; exact hdi)
          rw [Array.getD_eq_getD_getElem?, Array.getElem?_setIfInBounds_self_of_lt (by omega)] at this
          simp at this
        obtain ⟨ru, h1, h2⟩ := hA t u ht fun j hj hjt => by
          have h3 := hwr j hj hjt
          by_cases hij : i = j
          · subst hij; exact hunf
          · rwa [getD_set_ne false hij] at h3
        exact ⟨ru, by rw [hother t htd]; exact h1, h2.ext he'⟩
      · by_cases hij : i = j
        · subst hij
          rw [hdi] at hjd
          cases hjd
          rw [hQi] at hjQ
          cases hjQ
          exact ⟨v, rv, hQv, hself rv, hR⟩
        · rw [getD_set_ne false hij] at hjl
          obtain ⟨u, ru, h1, h2, h3⟩ := hB j d' Q' hj hjd hjQ hjl
          refine ⟨u, ru, h1, ?_, h3.ext he'⟩
          rw [hother d' ?_]
          · exact h2
          · have hp : l[j]? = some l[j] := List.getElem?_eq_getElem (by omega)
            rw [hp] at hjd
            exact fun hdd => ((hbody i o ho hik).2 j _ hj hp).1 hij d d' hod hjd hdd.symm
    unfold wpOp
    simp only [List.getElem?_toArray, ho]
    rcases hstep with ⟨hw, hq⟩ | ⟨hw, hq⟩
    · rw [wanted_of hknown hw, if_pos rfl]
      left
      exact hq st1 g w a K' _ hI1 hs hknown hn fun rv g' w' v st2 he' hs' hR hQv hI2 => hK _ _ (after v rv g' w' st2 he' hs' hR hQv hI2)
    · rw [wanted_of hknown hw, if_neg (by simp)]
      exact hK _ _ (after _ undef g w st1 (.refl _ _) hs (.lit _) hq hI1)
  have key : ∀ (m : Nat) (listed : Array Bool) (a : Act) (w : World), Inv listed a w → μ listed ≤ m → wpAny P .any l.toArray (QOf n a0.defers g0 w0 K E) m listed a w := by
    intro m
    induction m with
    | zero =>
      intro listed a w hi hm0
      -- nothing is left
      have hall : ∀ j, j < l.length → listed.getD j true = true := fun j hj => by
        cases hv : listed.getD j true with
        | true => rfl
        | false => have := hμ listed j hj hi.1 hv; omega
      have hlk : l.length = k := by
        rcases Nat.eq_or_lt_of_le hkl with h' | h'
        · exact h'.symm
        · have h1 := hall k h'
          have h2 := hi.2.2.1 k (Nat.le_refl _) h'
          rw [h1] at h2
          cases h2
      exact done 0 listed a w hi (fun j hj => hall j (by omega)) (by omega)
    | succ m ih =>
      intro listed a w hi hm1
      by_cases hall : ∀ j, j < k → listed.getD j true = true
      · refine done (m + 1) listed a w hi hall ?_
        -- the tail is unlisted: it is counted
        have : l.length - k ≤ μ listed := by
          exact countP_range_ge k _ l.length fun j h1 h2 => by rw [hi.2.2.1 j h1 h2]; rfl
        omega
      · have hex : ∃ j, j < k ∧ listed.getD j true = false ∧ ∀ q, q < j → listed.getD q true = true := by
          have : ∃ j, j < k ∧ listed.getD j true = false := by
            apply Classical.byContradiction
            intro hno
            apply hall
            intro j hj
            cases hv : listed.getD j true with
            | true => rfl
            | false => exact absurd ⟨j, hj, hv⟩ hno
          obtain ⟨j, hj⟩ := this
          induction j using Nat.strongRecOn with
          | _ j ihj =>
            by_cases hq : ∀ q, q < j → listed.getD q true = true
            · exact ⟨j, hj.1, hj.2, hq⟩
            · simp only [Classical.not_forall] at hq
              obtain ⟨q, hqj, hq⟩ := hq
              exact ihj q hqj ⟨by omega, by simpa using hq⟩
        obtain ⟨j0, hj0, hv0, hmin⟩ := hex
        have hsz := hi.1
        have hjl : j0 < l.length := by omega
        have hready : j0 ∈ Region.ready .any l.toArray listed := ready_of_edges hv0 (List.getElem?_eq_getElem hjl) (fun x hx => by
          have hxj := hedge j0 _ (List.getElem?_eq_getElem hjl) x hx
          have h1 := hmin x hxj
          rw [Array.getD_eq_getD_getElem?, Array.getElem?_eq_getElem (by omega)] at h1 ⊢
          simpa using h1)
        refine ⟨fun h0 => (by rw [h0] at hready; cases hready), fun i hri => ?_⟩
        obtain ⟨hun, o, ho, hed'⟩ := ready_edges hri
        have hil := (List.getElem?_eq_some_iff.1 ho).1
        have hik : i < k := by
          rcases Nat.lt_or_ge i k with h' | h'
          · exact h'
          · have h1 := htail i o h' ho listed hi.2.1 hed' j0 (by omega)
            rw [Array.getD_eq_getD_getElem?, Array.getElem?_eq_getElem (by omega)] at h1 hv0
            simp at h1 hv0
            rw [h1] at hv0
            cases hv0
        exact step _ listed a w i hi hik hri fun a' w' hi' => ih _ a' w' hi' (by have := hμ listed i hil hsz hun; omega)
  refine key _ _ a0 _ ?_ ?_
  · have hnone : ∀ j, (Array.replicate l.toArray.size false).getD j false = false := fun j => by
      rw [Array.getD_eq_getD_getElem?, Array.getElem?_replicate]
      split <;> rfl
    refine ⟨by simp, fun i o ho hi' => ?_, fun j _ hj => by simp [hj], hn0, rfl, g0, st, hed, hsd, hI, fun t v ht _ => (hk0.ext hed) t v ht, fun i d Q _ _ _ hl => ?_⟩
    · rw [hnone] at hi'; cases hi'
    · rw [hnone] at hl; cases hl
  · have := List.countP_le_length (p := fun j => !(Array.replicate l.length false).getD j true) (l := List.range l.length)
    exact Nat.le_trans this (by simp)

end
end Go.AM
/- Shifts, function values that capture, copies, slices of arrays. No conditions: lemmas only. -/
namespace Go.AM
open Go.RowKit (Below)
section
variable {P : Program} {n : Nat} {K : Post} {E : EPost} {T : Tmps} {st : St} {ops : Array Oper} {rest : List Oper}
variable {ty : TypeId} {pos : String} {es : Array Edge} {gd : Option (Nat × Bool)} {d : Tmp} {x y : Operand} {dd : Option Tmp}
end
end Go.AM
/- Contracts found by themselves; tests whose outcome is known. No conditions: definitions and lemmas only. -/
namespace Go.AM
open Go.RowKit (Below)
/-- A function that answers X to these arguments and leaves the state alone. -/
class PureFn (P : Program) (f : FuncId) (args : List AV) (X : outParam AV) : Prop where
  out : ∀ st, ACalls P f args st (fun v st' => v = X ∧ st' = st) (fun _ _ => False)
section
variable {P : Program} {n : Nat} {K : Post} {E : EPost} {T : Tmps} {st : St} {ops : Array Oper} {rest : List Oper}
variable {ty : TypeId} {pos : String} {es : Array Edge} {gd : Option (Nat × Bool)} {d : Tmp} {x y : Operand} {dd : Option Tmp}
theorem clp {f : FuncId} [hf : GoFun P f] {args : Array Operand} {tys : Array TypeId} {avs : List AV} {X : AV}
    (hg : goes ops n T ⟨dd, .call ⟨.value (.func f), args, tys⟩, ty, pos, es, gd⟩ = some d) (ha : evs st T args.toList = some avs)
    (hc : PureFn P f avs X) (h : AOps P n ops rest K E ((d, X) :: T) st) :
    AOps P n ops (⟨dd, .call ⟨.value (.func f), args, tys⟩, ty, pos, es, gd⟩ :: rest) K E T st := cle hg ha (hc.out st) h
/-- A value is told in other words. -/
theorem Tmps.tell {v v' : AV} {t : Nat} (ht : T.get t = some v) (he : v = v') (h : AOps P n ops rest K E ((t, v') :: T) st) : AOps P n ops rest K E T st :=
  AOps.weaken (TLe.consE ht he (.refl _)) (.refl _) h
def gtmp (ops : Array Oper) (T : Tmps) (o : Oper) : Option (Nat × Bool) :=
  match o.guard with
  | some (j, _) => match (ops[j]?).bind (·.dst) with
    | some t => match T.get t with
      | some (.bool b) => some (t, b)
      | _ => none
    | none => none
  | none => none
theorem gtmp_some {o : Oper} {t : Nat} {b : Bool} (h : gtmp ops T o = some (t, b)) : T.get t = some (.bool b) := by
  unfold gtmp at h
  split at h
  · split at h
    · split at h
      · simp only [Option.some.injEq, Prod.mk.injEq] at h
        obtain ⟨rfl, rfl⟩ := h
        assumption
      · cases h
    · cases h
  · cases h
/-- The guard's outcome is known. -/
theorem gB {o : Oper} {t : Nat} {b : Bool} (b' : Bool) (h : gtmp ops T o = some (t, b)) (hb : b = b') (k : AOps P n ops (o :: rest) K E ((t, .bool b') :: T) st) : AOps P n ops (o :: rest) K E T st :=
  Tmps.tell (gtmp_some h) (by rw [hb]) k
/-- The test's outcome is known. -/
theorem cT {c : Operand} {x y : Code} {b : Bool} (hc : ev st T c = some (.bool b)) (hb : b = true) (h : AWP P n x K E T st) : AWP P n (.cond c x y) K E T st := by
  subst hb; exact AWP.cond_true hc h
theorem cF {c : Operand} {x y : Code} {b : Bool} (hc : ev st T c = some (.bool b)) (hb : b = false) (h : AWP P n y K E T st) : AWP P n (.cond c x y) K E T st := by
  subst hb; exact AWP.cond_false hc h
/-- A store into an object of one row. -/
theorem so1 {t : TypeId} {sz by_ : Nat} {zz : Value} [hi : Inf P t sz by_ zz] {o s : Nat} {off : Nat} {row row' : List AV} {v : AV} {oty : TypeId}
    (hw : wantedA ops T ⟨none, .store t x y, ty, pos, es, gd⟩ = some true) (hx : ev (st.set o (.cells oty s [row])) T x = some (.cptr o s 0 off)) (hy : ev (st.set o (.cells oty s [row])) T y = some v)
    (hv : storable v = true) (hsz : Nat.beq v.cells.length sz = true) (hle : off + v.cells.length ≤ row.length) (he : rowSet row off v.cells = row')
    (k : AOps P n ops rest K E T (st.set o (.cells oty s [row']))) : AOps P n ops (⟨none, .store t x y, ty, pos, es, gd⟩ :: rest) K E T (st.set o (.cells oty s [row])) := by
  refine so hw hx hy (St.obj_set _ _ _) rfl hv hsz (Nat.ble_eq_true_of_le hle) rfl ?_
  rw [St.set_set, ← he] at *
  exact k
/-- The whole variable, below another one. -/
theorem soU {t : TypeId} {sz by_ : Nat} {zz : Value} [hi : Inf P t sz by_ zz] {o o2 s : Nat} {row : List AV} {v : AV} {oty : TypeId} {c2 : AObj}
    (hw : wantedA ops T ⟨none, .store t x y, ty, pos, es, gd⟩ = some true) (hne : o2 ≠ o) (hx : ev ((st.set o (.cells oty s [row])).set o2 c2) T x = some (.cptr o s 0 0)) (hy : ev ((st.set o (.cells oty s [row])).set o2 c2) T y = some v)
    (hv : storable v = true) (hsz : Nat.beq v.cells.length sz = true) (hle : Nat.beq v.cells.length row.length = true)
    (k : AOps P n ops rest K E T ((st.set o (.cells oty s [v.cells])).set o2 c2)) : AOps P n ops (⟨none, .store t x y, ty, pos, es, gd⟩ :: rest) K E T ((st.set o (.cells oty s [row])).set o2 c2) := by
  have hl : v.cells.length = row.length := Nat.eq_of_beq_eq_true hle
  refine so hw hx hy (St.obj_under hne _ _) rfl hv hsz (Nat.ble_eq_true_of_le (by omega)) rfl ?_
  rw [St.set_inner hne]
  simp only [List.set_cons_zero]
  rw [rowSet_all hl]
  exact k
end
end Go.AM
/- Regions that draw their order, some operations changing the state, one behind the other. No conditions: definitions and lemmas only. -/
namespace Go.AM
open Go.RowKit (Below)
section
variable {P : Program} {n : Nat} {K : Post} {E : EPost} {T : Tmps} {st : St}
/-- From every state of I to one of I', the outcome as told. -/
def EffJ (P : Program) (n : Nat) (I I' : St → Prop) (T : Tmps) (o : Oper) (Q : AV → Prop) : Prop :=
  ∀ st g w a (K' : Act → World → Prop) (Q' : Exit → Act → World → Prop), I st → Sim g w st → Known g w T a → a.tmps.size = n →
    (∀ rv g' w' v st1, Ext g w g' w' → Sim g' w' st1 → R g' w' v rv → Q v → I' st1 → K' (a.put o.dst rv) w') → o.wp P a w K' Q'
def StepS (P : Program) (n : Nat) (I : Nat → St → Prop) (Es : List Nat) (i : Nat) (ops : Array Oper) (T : Tmps) (o : Oper) (Q : AV → Prop) : Prop :=
  (wantedA ops T o = some true ∧ (Es.contains i = false → ∀ j, EffJ P n (I j) (I j) T o Q) ∧ ∀ j, Es[j]? = some i → EffJ P n (I j) (I (j + 1)) T o Q) ∨ (wantedA ops T o = some false ∧ Q (.lit undef) ∧ Es.contains i = false)
/-- The walk in the text's order; behind it k. -/
def DRunS (P : Program) (n : Nat) (I : Nat → St → Prop) (Es : List Nat) (ops : Array Oper) : Nat → List Oper → List (AV → Prop) → Tmps → (Tmps → St → Prop) → Prop
  | _, [], [], T, k => ∀ st, I Es.length st → k T st
  | i, o :: r, Q :: Qs, T, k => (∃ u, Q u) ∧ dstOk o.dst n = true ∧ StepS P n I Es i ops (see ops o T) o Q ∧ ∀ u, Q u → DRunS P n I Es ops (i + 1) r Qs (T.put o.dst u) k
  | _, _, _, _, _ => False
theorem DRunS.out {I : Nat → St → Prop} {Es : List Nat} {ops : Array Oper} {k : Tmps → St → Prop} (us : Nat → AV) (l : List Oper) : ∀ (r : List Oper) (Qs : List (AV → Prop)) (i0 : Nat), (∀ (i : Nat) (o : Oper), r[i]? = some o → l[i0 + i]? = some o) → (∀ (i : Nat) (Q : AV → Prop), Qs[i]? = some Q → Q (us (i0 + i))) →
    DRunS P n I Es ops i0 r Qs (ents l us i0 ++ T) k → Qs.length = r.length ∧ (∀ st, I Es.length st → k (ents l us (i0 + r.length) ++ T) st) ∧
      ∀ i o, r[i]? = some o → ∃ Q, dstOk o.dst n = true ∧ Qs[i]? = some Q ∧ StepS P n I Es (i0 + i) ops (see ops o (ents l us (i0 + i) ++ T)) o Q
  | [], [], i0, _, _, h => ⟨rfl, h, fun i o ho => by simp at ho⟩
  | [], _ :: _, _, _, _, h => h.elim
  | _ :: _, [], _, _, _, h => h.elim
  | o :: r, Q :: Qs, i0, hl, hq, h => by
    obtain ⟨_, h2, h4, h5⟩ := h
    have h6 := h5 (us i0) (hq 0 Q rfl)
    have hl0 : l[i0]? = some o := by simpa using hl 0 o rfl
    have he : (ents l us i0 ++ T).put o.dst (us i0) = ents l us (i0 + 1) ++ T := by
      rw [ents, hl0]
      simp only [Option.bind_some]
      cases o.dst <;> rfl
    rw [he] at h6
    obtain ⟨a1, a2, a3⟩ := DRunS.out us l r Qs (i0 + 1) (fun i o' ho' => by have := hl (i + 1) o' (by simpa using ho'); rwa [show i0 + (i + 1) = i0 + 1 + i by omega] at this) (fun i Q' hQ' => by have := hq (i + 1) Q' (by simpa using hQ'); rwa [show i0 + (i + 1) = i0 + 1 + i by omega] at this) h6
    refine ⟨by simp [a1], by rw [List.length_cons, show i0 + (r.length + 1) = i0 + 1 + r.length by omega]; exact a2, fun i o' ho' => ?_⟩
    cases i with
    | zero =>
      simp only [List.getElem?_cons_zero, Option.some.injEq] at ho'
      subst ho'
      exact ⟨Q, h2, rfl, h4⟩
    | succ i =>
      obtain ⟨Q', b1, b2, b3⟩ := a3 i o' (by simpa using ho')
      exact ⟨Q', b1, by simpa using b2, by rwa [show i0 + 1 + i = i0 + (i + 1) by omega] at b3⟩
theorem DRunS.fits {I : Nat → St → Prop} {Es : List Nat} {ops : Array Oper} {k : Tmps → St → Prop} : ∀ (r : List Oper) (Qs : List (AV → Prop)) (i0 : Nat) (T : Tmps), DRunS P n I Es ops i0 r Qs T k → ∀ (i : Nat) (Q : AV → Prop), Qs[i]? = some Q → ∃ u, Q u
  | [], [], _, _, _, i, Q, h => by simp at h
  | [], _ :: _, _, _, h, _, _, _ => h.elim
  | _ :: _, [], _, _, h, _, _, _ => h.elim
  | o :: r, Q0 :: Qs, i0, T, h, i, Q, hq => by
    obtain ⟨⟨u, hu⟩, h2, h4, h5⟩ := h
    cases i with
    | zero => simp at hq; subst hq; exact ⟨u, hu⟩
    | succ i => exact DRunS.fits r Qs _ _ (h5 u hu) i Q (by simpa using hq)
end
end Go.AM
/- The steps of a region that draws its order and writes, out of the rules for a region that does not. No conditions: definitions and lemmas only. -/
namespace Go.AM
open Go.RowKit (Below)
section
variable {P : Program} {n : Nat} {K : Post} {E : EPost} {T : Tmps} {st base : St} {ops : Array Oper} {sts : List St} {Es : List Nat}
/-- An operation without a temporary. -/
theorem AOps.singleN {o : Oper} {v : St → Prop} (h : AOps P n ops [o] (fun T' st' => T' = T ∧ v st') (fun _ _ _ => False) T st) (hw : wantedA ops T o = some true)
    {g : G} {w : World} {a : Act} (hs : Sim g w st) (hk : Known g w T a) (K' : Act → World → Prop) (Q' : Exit → Act → World → Prop)
    (hK : ∀ rv g' w' st', Ext g w g' w' → Sim g' w' st' → v st' → K' (a.put o.dst rv) w') (hn : a.tmps.size = n) : o.wp P a w K' Q' := by
  have h1 := h g w a hs hk hn
  unfold wpList at h1
  rw [wanted_of hk hw, if_pos rfl] at h1
  rcases h1 with h1 | ⟨_, h1⟩
  · refine wp_put h1 (fun a' w' hda hq ⟨rv, hrv⟩ => ?_) (fun a' w' hq => hq.2.1) (fun e a' w' hne hq => ?_)
    · obtain ⟨h2, h3, g', T', st', h4, h5, h6, hT, hv⟩ := hq
      subst hrv
      exact hK rv g' w' st' h4 h5 hv
    · obtain ⟨_, _, g', T', st', _, _, _, h6⟩ := hq
      cases e with
      | normal => exact absurd rfl hne
      | exit id => exact h6.elim
      | ret => exact h6.elim
      | panic ch => obtain ⟨_, _, _, _, h7⟩ := h6; exact h7.elim
      | goto l => exact h6.elim
      | outgrown => exact h6.elim
  · exact absurd h1 LetsOut.not_QOf
theorem ev_glob {s s' : St} (h : s.glob = s'.glob) (T : Tmps) (x : Operand) : ev s T x = ev s' T x := by
  cases x <;> simp [ev, St.row, h]
theorem valA_glob {s s' : St} (h : s.glob = s'.glob) (T : Tmps) (o : Op) : valA s T o = valA s' T o := by
  unfold valA
  simp only [ev_glob h]
theorem step1_glob {s s' : St} (h : s.glob = s'.glob) (T : Tmps) (o : Oper) : step1 ops n s T o = step1 ops n s' T o := by
  unfold step1
  rw [valA_glob h]
end
end Go.AM
/- Functions of the library that a contract of the kit tells. No conditions: lemmas only. -/
namespace Go.AM
open Go.RowKit (Below)
end Go.AM
/- A nil slice in a variable gets a token. No conditions: lemmas only. -/
namespace Go.AM
open Go.RowKit (Below)
variable {P : Program} {n : Nat} {K : Post} {E : EPost} {T : Tmps} {st : St}
theorem Sim.nilTokIn {g : G} {w : World} (hs : Sim g w st) {o s i j : Nat} {oty : TypeId} {rows : List (List AV)} {row : List AV} (ho : st.obj o = some (.cells oty s rows)) (hr : rows[i]? = some row) (hj : row[j]? = some (.view 0 [] .nil)) (e : TypeId) (sz : Nat) :
    ∃ g' tk, Ext g w g' w ∧ st.tok tk = false ∧ Sim g' w ((st.addTok tk).set o (.cells oty s (rows.set i (row.set j (.view sz [] (.own tk e)))))) := by
  obtain ⟨g', he, hs', htk, hf⟩ := hs.nilTok e
  obtain ⟨b, m, hb, _, _, _⟩ := hs'.objs o _ ho
  obtain ⟨_, ⟨arr, ha, hasz, hml, hl, h1, hc⟩, _⟩ := hs'.objOf ho hb
  have hil : i < rows.length := (List.getElem?_eq_some_iff.1 hr).1
  have hjl : j < row.length := (List.getElem?_eq_some_iff.1 hj).1
  obtain ⟨_, hs2⟩ := hs'.write (c' := .cells oty s (rows.set i (row.set j (.view sz [] (.own g.next e))))) ho hb w rfl rfl rfl rfl (fun _ _ => rfl) (fun _ => by
    refine ⟨arr, ha, hasz, by simpa using hml, fun r hm => ?_, fun r hm => ?_, fun i' j' r c hr' hc' => ?_⟩
    · rcases List.mem_or_eq_of_mem_set hm with h | h
      · exact hl r h
      · rw [h, List.length_set]; exact hl row (List.mem_of_getElem? hr)
    · rcases List.mem_or_eq_of_mem_set hm with h | h
      · exact h1 r h
      · subst h
        intro c hcm
        rcases List.mem_or_eq_of_mem_set hcm with h2 | h2
        · exact h1 row (List.mem_of_getElem? hr) c h2
        · subst h2; rfl
    · by_cases hi : i' = i
      · subst hi
        rw [List.getElem?_set_self hil] at hr'
        cases hr'
        by_cases hjj : j' = j
        · subst hjj
          rw [List.getElem?_set_self hjl] at hc'
          cases hc'
          obtain ⟨v, hv, hR⟩ := hc i' j' row _ hr hj
          refine ⟨v, hv, ?_⟩
          have hv0 : v = .slice none 0 0 := by
            cases hR with
            | vnil => rfl
            | vemp _ _ _ hn _ => exact absurd rfl hn
            | view _ _ _ _ _ _ _ _ _ _ _ ht' => simp [TokAt] at ht'
          subst hv0
          exact .vnil _ _ (TokAt.mkOwn rfl htk (fun h => absurd rfl h))
        · rw [List.getElem?_set_ne (Ne.symm hjj)] at hc'
          exact hc i' j' row c hr hc'
      · rw [List.getElem?_set_ne (Ne.symm hi)] at hr'
        exact hc i' j' r c hr' hc')
  exact ⟨g', g.next, he, hf, hs2⟩
theorem AWP.nilIn {c : Code} {o s i j : Nat} {oty : TypeId} {rows : List (List AV)} {row : List AV} (e : TypeId) (sz : Nat) (ho : st.obj o = some (.cells oty s rows)) (hr : rows[i]? = some row) (hj : row[j]? = some (.view 0 [] .nil))
    (h : ∀ tk, st.tok tk = false → AWP P n c K E T ((st.addTok tk).set o (.cells oty s (rows.set i (row.set j (.view sz [] (.own tk e))))))) : AWP P n c K E T st :=
  AWP.ghost fun g w a hs hk => by
    obtain ⟨g', tk, he, hf, hs'⟩ := hs.nilTokIn ho hr hj e sz
    exact ⟨g', T, _, he, hs', hk.ext he, h tk hf⟩
end Go.AM
/- Arguments that are structs and arrays of plain cells, opened. No conditions: definitions and lemmas only. -/
namespace Go.AM
def FitW1 : Sh → AV → Prop
  | .kI k, c => ∃ x, c = .int k x ∧ (Lit.int k x).wf = true
  | .kB, c => ∃ b, c = .bool b
  | .kS, c => ∃ l : List UInt8, c = .str l ∧ l.length ≤ maxLen
def FitsW : List Sh → List AV → Prop
  | [], [] => True
  | s :: ss, c :: cs => FitW1 s c ∧ FitsW ss cs
  | _, _ => False
theorem FitsW.append : ∀ {s1 s2 : List Sh} {c1 c2 : List AV}, FitsW s1 c1 → FitsW s2 c2 → FitsW (s1 ++ s2) (c1 ++ c2)
  | [], _, [], _, _, h2 => h2
  | _ :: _, _, _ :: _, _, h1, h2 => ⟨h1.1, h1.2.append h2⟩
  | [], _, _ :: _, _, h1, _ => h1.elim
  | _ :: _, _, [], _, h1, _ => h1.elim
section
variable {P : Program} {n : Nat} {K : Post} {E : EPost} {T : Tmps} {st : St} {ops : Array Oper} {rest : List Oper}
variable {ty ty2 : TypeId} {pos pos2 : String} {es es2 : Array Edge} {gd : Option (Nat × Bool)} {d : Tmp} {y : Operand} {dd : Option Tmp}
/-- A new variable gets its only value. -/
theorem alN {t : TypeId} {sz by_ : Nat} {z : Value} [hi : Inf P t sz by_ z] {v : AV} (hg : goes ops n T ⟨dd, .alloc t, ty, pos, es, gd⟩ = some d) (hz : zok sz z = true) (hy : ∀ o, ev (st.set o (.cells t sz [zrow z])) ((d, .cptr o sz 0 0) :: T) y = some v)
    (hv : storable v = true) (hsz : Nat.beq v.cells.length sz = true)
    (k : AOps P n ops rest K E ((d, .eptr sz [v.cells] 0 0) :: T) st) :
    AOps P n ops (⟨dd, .alloc t, ty, pos, es, gd⟩ :: ⟨none, .store t (.tmp d) y, ty2, pos2, es2, none⟩ :: rest) K E T st := by
  refine al hg hz fun o ho => ?_
  have hzl := (zok_spec hz).2.2.1
  refine soN d rfl ?_ (hy o) hv hsz ?_ ho ?_
  · simp [Tmps.get_cons]
  · rw [Nat.eq_of_beq_eq_true hsz, hzl]; exact nbeq_self sz
  · refine AOps.weaken ?_ (.refl _) k
    intro i v' h
    rw [Tmps.get_cons] at h
    by_cases e : d = i
    · subst e
      rw [if_pos rfl] at h
      cases h
      exact ⟨_, by rw [Tmps.get_cons, if_pos rfl], .refl _⟩
    · rw [if_neg e] at h
      exact ⟨v', by rw [Tmps.get_cons, if_neg e, Tmps.get_cons, if_neg e]; exact h, .refl _⟩
end
end Go.AM
