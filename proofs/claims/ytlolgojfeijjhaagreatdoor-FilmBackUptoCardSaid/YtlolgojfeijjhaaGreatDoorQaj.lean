/-
  Parts of the proof, joined by a program of this work: KSeat, KSpec.
-/
import Derived.Test.YtlolgojfeijjhaaGreatDoorProg
import Derived.Test.YtlolgojfeijjhaaGreatDoorQah
import Derived.Test.YtlolgojfeijjhaaGreatDoorQai
import Derived.KernelRfl
import Derived.Test.YtlolgojfeijjhaaGreatDoorQaa
set_option maxRecDepth 100000
section
open Go
namespace Go.K.S
noncomputable abbrev P : Program := Go.Proofs.Tryz.prog
def tt : TypeId → Option TInfo
 | 2 => some ⟨1, 8, some (.int .i64 (0)), .int .i64⟩
 | 3 => some ⟨1, 8, some (.int .i64 (0)), .int .i64⟩
 | 4 => some ⟨1, 1, some (.bool false), .bool⟩
 | 5 => some ⟨1, 1, some (.int .u8 (0)), .int .u8⟩
 | 9 => some ⟨1, 16, some (.string ⟨#[]⟩), .string⟩
 | 12 => some ⟨1, 8, some (.int .u64 (0)), .int .u64⟩
 | 21 => some ⟨1, 4, some (.int .i32 (0)), .int .i32⟩
 | 22 => some ⟨1, 24, some (.slice none 0 0), .slice 32⟩
 | 23 => some ⟨5, 72, some (.agg #[.int .i64 (0), .int .i64 (0), .int .i64 (0), .slice none 0 0, .slice none 0 0]), .struct #[⟨"W", 3, 0, false, "", "", 0⟩, ⟨"H", 3, 1, false, "", "", 8⟩, ⟨"Bins", 3, 2, false, "", "", 16⟩, ⟨"A", 22, 3, false, "", "", 24⟩, ⟨"B", 22, 4, false, "", "", 48⟩]⟩
 | 24 => some ⟨5, 72, some (.agg #[.int .i64 (0), .int .i64 (0), .int .i64 (0), .slice none 0 0, .slice none 0 0]), .struct #[⟨"W", 3, 0, false, "", "", 0⟩, ⟨"H", 3, 1, false, "", "", 8⟩, ⟨"Bins", 3, 2, false, "", "", 16⟩, ⟨"A", 22, 3, false, "", "", 24⟩, ⟨"B", 22, 4, false, "", "", 48⟩]⟩
 | 29 => some ⟨2, 16, some (.agg #[.int .i64 (0), .int .i64 (0)]), .array 2 3⟩
 | 30 => some ⟨1, 24, some (.slice none 0 0), .slice 92⟩
 | 31 => some ⟨3, 56, some (.agg #[.bool false, .slice none 0 0, .slice none 0 0]), .struct #[⟨"Neg", 4, 0, false, "", "", 0⟩, ⟨"Num", 30, 1, false, "", "", 8⟩, ⟨"Den", 30, 2, false, "", "", 32⟩]⟩
 | 32 => some ⟨3, 56, some (.agg #[.bool false, .slice none 0 0, .slice none 0 0]), .struct #[⟨"Neg", 4, 0, false, "", "", 0⟩, ⟨"Num", 30, 1, false, "", "", 8⟩, ⟨"Den", 30, 2, false, "", "", 32⟩]⟩
 | 33 => some ⟨6, 112, some (.agg #[.bool false, .slice none 0 0, .slice none 0 0, .bool false, .slice none 0 0, .slice none 0 0]), .array 2 32⟩
 | 49 => some ⟨1, 24, some (.slice none 0 0), .slice 24⟩
 | 53 => some ⟨1, 8, some (.int .i64 (0)), .int .i64⟩
 | 56 => some ⟨1, 8, some (.pointer none), .pointer 59⟩
 | 57 => some ⟨1, 24, some (.slice none 0 0), .slice 5⟩
 | 58 => some ⟨2, 32, some (.agg #[.pointer none, .slice none 0 0]), .struct #[⟨"addr", 56, 0, false, "", "strings", 0⟩, ⟨"buf", 57, 1, false, "", "strings", 8⟩]⟩
 | 59 => some ⟨2, 32, some (.agg #[.pointer none, .slice none 0 0]), .struct #[⟨"addr", 56, 0, false, "", "strings", 0⟩, ⟨"buf", 57, 1, false, "", "strings", 8⟩]⟩
 | 67 => some ⟨3, 24, some (.agg #[.int .i64 (0), .int .i64 (0), .int .i64 (0)]), .array 3 3⟩
 | 68 => some ⟨1, 8, some (.int .u64 (0)), .int .u64⟩
 | 69 => some ⟨1, 24, some (.slice none 0 0), .slice 3⟩
 | 84 => some ⟨1, 24, some (.slice none 0 0), .slice 9⟩
 | 91 => some ⟨1, 8, some (.pointer none), .pointer 5⟩
 | 92 => some ⟨1, 4, some (.int .u32 (0)), .int .u32⟩
 | 103 => some ⟨1, 8, some (.int .u64 (0)), .int .u64⟩
 | 110 => some ⟨1, 8, some (.pointer none), .unsafePointer⟩
 | 113 => some ⟨9, 9, some (.agg #[.int .u8 (0), .int .u8 (0), .int .u8 (0), .int .u8 (0), .int .u8 (0), .int .u8 (0), .int .u8 (0), .int .u8 (0), .int .u8 (0)]), .array 9 5⟩
 | 133 => some ⟨24, 24, some (.agg #[.int .u8 (0), .int .u8 (0), .int .u8 (0), .int .u8 (0), .int .u8 (0), .int .u8 (0), .int .u8 (0), .int .u8 (0), .int .u8 (0), .int .u8 (0), .int .u8 (0), .int .u8 (0), .int .u8 (0), .int .u8 (0), .int .u8 (0), .int .u8 (0), .int .u8 (0), .int .u8 (0), .int .u8 (0), .int .u8 (0), .int .u8 (0), .int .u8 (0), .int .u8 (0), .int .u8 (0)]), .array 24 5⟩
 | 140 => some ⟨256, 256, some (.agg #[.bool false, .bool false, .bool false, .bool false, .bool false, .bool false, .bool false, .bool false, .bool false, .bool false, .bool false, .bool false, .bool false, .bool false, .bool false, .bool false, .bool false, .bool false, .bool false, .bool false, .bool false, .bool false, .bool false, .bool false, .bool false, .bool false, .bool false, .bool false, .bool false, .bool false, .bool false, .bool false, .bool false, .bool false, .bool false, .bool false, .bool false, .bool false, .bool false, .bool false, .bool false, .bool false, .bool false, .bool false, .bool false, .bool false, .bool false, .bool false, .bool false, .bool false, .bool false, .bool false, .bool false, .bool false, .bool false, .bool false, .bool false, .bool false, .bool false, .bool false, .bool false, .bool false, .bool false, .bool false, .bool false, .bool false, .bool false, .bool false, .bool false, .bool false, .bool false, .bool false, .bool false, .bool false, .bool false, .bool false, .bool false, .bool false, .bool false, .bool false, .bool false, .bool false, .bool false, .bool false, .bool false, .bool false, .bool false, .bool false, .bool false, .bool false, .bool false, .bool false, .bool false, .bool false, .bool false, .bool false, .bool false, .bool false, .bool false, .bool false, .bool false, .bool false, .bool false, .bool false, .bool false, .bool false, .bool false, .bool false, .bool false, .bool false, .bool false, .bool false, .bool false, .bool false, .bool false, .bool false, .bool false, .bool false, .bool false, .bool false, .bool false, .bool false, .bool false, .bool false, .bool false, .bool false, .bool false, .bool false, .bool false, .bool false, .bool false, .bool false, .bool false, .bool false, .bool false, .bool false, .bool false, .bool false, .bool false, .bool false, .bool false, .bool false, .bool false, .bool false, .bool false, .bool false, .bool false, .bool false, .bool false, .bool false, .bool false, .bool false, .bool false, .bool false, .bool false, .bool false, .bool false, .bool false, .bool false, .bool false, .bool false, .bool false, .bool false, .bool false, .bool false, .bool false, .bool false, .bool false, .bool false, .bool false, .bool false, .bool false, .bool false, .bool false, .bool false, .bool false, .bool false, .bool false, .bool false, .bool false, .bool false, .bool false, .bool false, .bool false, .bool false, .bool false, .bool false, .bool false, .bool false, .bool false, .bool false, .bool false, .bool false, .bool false, .bool false, .bool false, .bool false, .bool false, .bool false, .bool false, .bool false, .bool false, .bool false, .bool false, .bool false, .bool false, .bool false, .bool false, .bool false, .bool false, .bool false, .bool false, .bool false, .bool false, .bool false, .bool false, .bool false, .bool false, .bool false, .bool false, .bool false, .bool false, .bool false, .bool false, .bool false, .bool false, .bool false, .bool false, .bool false, .bool false, .bool false, .bool false, .bool false, .bool false, .bool false, .bool false, .bool false, .bool false, .bool false, .bool false, .bool false, .bool false, .bool false, .bool false, .bool false, .bool false, .bool false, .bool false, .bool false, .bool false, .bool false, .bool false, .bool false, .bool false, .bool false, .bool false]), .array 256 4⟩
 | 141 => some ⟨256, 256, some (.agg #[.bool false, .bool false, .bool false, .bool false, .bool false, .bool false, .bool false, .bool false, .bool false, .bool false, .bool false, .bool false, .bool false, .bool false, .bool false, .bool false, .bool false, .bool false, .bool false, .bool false, .bool false, .bool false, .bool false, .bool false, .bool false, .bool false, .bool false, .bool false, .bool false, .bool false, .bool false, .bool false, .bool false, .bool false, .bool false, .bool false, .bool false, .bool false, .bool false, .bool false, .bool false, .bool false, .bool false, .bool false, .bool false, .bool false, .bool false, .bool false, .bool false, .bool false, .bool false, .bool false, .bool false, .bool false, .bool false, .bool false, .bool false, .bool false, .bool false, .bool false, .bool false, .bool false, .bool false, .bool false, .bool false, .bool false, .bool false, .bool false, .bool false, .bool false, .bool false, .bool false, .bool false, .bool false, .bool false, .bool false, .bool false, .bool false, .bool false, .bool false, .bool false, .bool false, .bool false, .bool false, .bool false, .bool false, .bool false, .bool false, .bool false, .bool false, .bool false, .bool false, .bool false, .bool false, .bool false, .bool false, .bool false, .bool false, .bool false, .bool false, .bool false, .bool false, .bool false, .bool false, .bool false, .bool false, .bool false, .bool false, .bool false, .bool false, .bool false, .bool false, .bool false, .bool false, .bool false, .bool false, .bool false, .bool false, .bool false, .bool false, .bool false, .bool false, .bool false, .bool false, .bool false, .bool false, .bool false, .bool false, .bool false, .bool false, .bool false, .bool false, .bool false, .bool false, .bool false, .bool false, .bool false, .bool false, .bool false, .bool false, .bool false, .bool false, .bool false, .bool false, .bool false, .bool false, .bool false, .bool false, .bool false, .bool false, .bool false, .bool false, .bool false, .bool false, .bool false, .bool false, .bool false, .bool false, .bool false, .bool false, .bool false, .bool false, .bool false, .bool false, .bool false, .bool false, .bool false, .bool false, .bool false, .bool false, .bool false, .bool false, .bool false, .bool false, .bool false, .bool false, .bool false, .bool false, .bool false, .bool false, .bool false, .bool false, .bool false, .bool false, .bool false, .bool false, .bool false, .bool false, .bool false, .bool false, .bool false, .bool false, .bool false, .bool false, .bool false, .bool false, .bool false, .bool false, .bool false, .bool false, .bool false, .bool false, .bool false, .bool false, .bool false, .bool false, .bool false, .bool false, .bool false, .bool false, .bool false, .bool false, .bool false, .bool false, .bool false, .bool false, .bool false, .bool false, .bool false, .bool false, .bool false, .bool false, .bool false, .bool false, .bool false, .bool false, .bool false, .bool false, .bool false, .bool false, .bool false, .bool false, .bool false, .bool false, .bool false, .bool false, .bool false, .bool false, .bool false, .bool false, .bool false, .bool false, .bool false, .bool false, .bool false, .bool false, .bool false, .bool false, .bool false, .bool false, .bool false, .bool false, .bool false, .bool false, .bool false, .bool false]), .array 256 4⟩
 | 145 => some ⟨1, 8, some (.pointer none), .pointer 141⟩
 | 158 => some ⟨20, 160, some (.agg #[.int .u64 (0), .int .u64 (0), .int .u64 (0), .int .u64 (0), .int .u64 (0), .int .u64 (0), .int .u64 (0), .int .u64 (0), .int .u64 (0), .int .u64 (0), .int .u64 (0), .int .u64 (0), .int .u64 (0), .int .u64 (0), .int .u64 (0), .int .u64 (0), .int .u64 (0), .int .u64 (0), .int .u64 (0), .int .u64 (0)]), .array 20 103⟩
 | 159 => some ⟨65, 65, some (.agg #[.int .u8 (0), .int .u8 (0), .int .u8 (0), .int .u8 (0), .int .u8 (0), .int .u8 (0), .int .u8 (0), .int .u8 (0), .int .u8 (0), .int .u8 (0), .int .u8 (0), .int .u8 (0), .int .u8 (0), .int .u8 (0), .int .u8 (0), .int .u8 (0), .int .u8 (0), .int .u8 (0), .int .u8 (0), .int .u8 (0), .int .u8 (0), .int .u8 (0), .int .u8 (0), .int .u8 (0), .int .u8 (0), .int .u8 (0), .int .u8 (0), .int .u8 (0), .int .u8 (0), .int .u8 (0), .int .u8 (0), .int .u8 (0), .int .u8 (0), .int .u8 (0), .int .u8 (0), .int .u8 (0), .int .u8 (0), .int .u8 (0), .int .u8 (0), .int .u8 (0), .int .u8 (0), .int .u8 (0), .int .u8 (0), .int .u8 (0), .int .u8 (0), .int .u8 (0), .int .u8 (0), .int .u8 (0), .int .u8 (0), .int .u8 (0), .int .u8 (0), .int .u8 (0), .int .u8 (0), .int .u8 (0), .int .u8 (0), .int .u8 (0), .int .u8 (0), .int .u8 (0), .int .u8 (0), .int .u8 (0), .int .u8 (0), .int .u8 (0), .int .u8 (0), .int .u8 (0), .int .u8 (0)]), .array 65 5⟩
 | 166 => some ⟨256, 256, some (.agg #[.int .u8 (0), .int .u8 (0), .int .u8 (0), .int .u8 (0), .int .u8 (0), .int .u8 (0), .int .u8 (0), .int .u8 (0), .int .u8 (0), .int .u8 (0), .int .u8 (0), .int .u8 (0), .int .u8 (0), .int .u8 (0), .int .u8 (0), .int .u8 (0), .int .u8 (0), .int .u8 (0), .int .u8 (0), .int .u8 (0), .int .u8 (0), .int .u8 (0), .int .u8 (0), .int .u8 (0), .int .u8 (0), .int .u8 (0), .int .u8 (0), .int .u8 (0), .int .u8 (0), .int .u8 (0), .int .u8 (0), .int .u8 (0), .int .u8 (0), .int .u8 (0), .int .u8 (0), .int .u8 (0), .int .u8 (0), .int .u8 (0), .int .u8 (0), .int .u8 (0), .int .u8 (0), .int .u8 (0), .int .u8 (0), .int .u8 (0), .int .u8 (0), .int .u8 (0), .int .u8 (0), .int .u8 (0), .int .u8 (0), .int .u8 (0), .int .u8 (0), .int .u8 (0), .int .u8 (0), .int .u8 (0), .int .u8 (0), .int .u8 (0), .int .u8 (0), .int .u8 (0), .int .u8 (0), .int .u8 (0), .int .u8 (0), .int .u8 (0), .int .u8 (0), .int .u8 (0), .int .u8 (0), .int .u8 (0), .int .u8 (0), .int .u8 (0), .int .u8 (0), .int .u8 (0), .int .u8 (0), .int .u8 (0), .int .u8 (0), .int .u8 (0), .int .u8 (0), .int .u8 (0), .int .u8 (0), .int .u8 (0), .int .u8 (0), .int .u8 (0), .int .u8 (0), .int .u8 (0), .int .u8 (0), .int .u8 (0), .int .u8 (0), .int .u8 (0), .int .u8 (0), .int .u8 (0), .int .u8 (0), .int .u8 (0), .int .u8 (0), .int .u8 (0), .int .u8 (0), .int .u8 (0), .int .u8 (0), .int .u8 (0), .int .u8 (0), .int .u8 (0), .int .u8 (0), .int .u8 (0), .int .u8 (0), .int .u8 (0), .int .u8 (0), .int .u8 (0), .int .u8 (0), .int .u8 (0), .int .u8 (0), .int .u8 (0), .int .u8 (0), .int .u8 (0), .int .u8 (0), .int .u8 (0), .int .u8 (0), .int .u8 (0), .int .u8 (0), .int .u8 (0), .int .u8 (0), .int .u8 (0), .int .u8 (0), .int .u8 (0), .int .u8 (0), .int .u8 (0), .int .u8 (0), .int .u8 (0), .int .u8 (0), .int .u8 (0), .int .u8 (0), .int .u8 (0), .int .u8 (0), .int .u8 (0), .int .u8 (0), .int .u8 (0), .int .u8 (0), .int .u8 (0), .int .u8 (0), .int .u8 (0), .int .u8 (0), .int .u8 (0), .int .u8 (0), .int .u8 (0), .int .u8 (0), .int .u8 (0), .int .u8 (0), .int .u8 (0), .int .u8 (0), .int .u8 (0), .int .u8 (0), .int .u8 (0), .int .u8 (0), .int .u8 (0), .int .u8 (0), .int .u8 (0), .int .u8 (0), .int .u8 (0), .int .u8 (0), .int .u8 (0), .int .u8 (0), .int .u8 (0), .int .u8 (0), .int .u8 (0), .int .u8 (0), .int .u8 (0), .int .u8 (0), .int .u8 (0), .int .u8 (0), .int .u8 (0), .int .u8 (0), .int .u8 (0), .int .u8 (0), .int .u8 (0), .int .u8 (0), .int .u8 (0), .int .u8 (0), .int .u8 (0), .int .u8 (0), .int .u8 (0), .int .u8 (0), .int .u8 (0), .int .u8 (0), .int .u8 (0), .int .u8 (0), .int .u8 (0), .int .u8 (0), .int .u8 (0), .int .u8 (0), .int .u8 (0), .int .u8 (0), .int .u8 (0), .int .u8 (0), .int .u8 (0), .int .u8 (0), .int .u8 (0), .int .u8 (0), .int .u8 (0), .int .u8 (0), .int .u8 (0), .int .u8 (0), .int .u8 (0), .int .u8 (0), .int .u8 (0), .int .u8 (0), .int .u8 (0), .int .u8 (0), .int .u8 (0), .int .u8 (0), .int .u8 (0), .int .u8 (0), .int .u8 (0), .int .u8 (0), .int .u8 (0), .int .u8 (0), .int .u8 (0), .int .u8 (0), .int .u8 (0), .int .u8 (0), .int .u8 (0), .int .u8 (0), .int .u8 (0), .int .u8 (0), .int .u8 (0), .int .u8 (0), .int .u8 (0), .int .u8 (0), .int .u8 (0), .int .u8 (0), .int .u8 (0), .int .u8 (0), .int .u8 (0), .int .u8 (0), .int .u8 (0), .int .u8 (0), .int .u8 (0), .int .u8 (0), .int .u8 (0), .int .u8 (0), .int .u8 (0), .int .u8 (0), .int .u8 (0), .int .u8 (0), .int .u8 (0), .int .u8 (0), .int .u8 (0), .int .u8 (0), .int .u8 (0), .int .u8 (0), .int .u8 (0), .int .u8 (0), .int .u8 (0), .int .u8 (0), .int .u8 (0), .int .u8 (0), .int .u8 (0), .int .u8 (0), .int .u8 (0), .int .u8 (0), .int .u8 (0)]), .array 256 5⟩
 | 167 => some ⟨2, 2, some (.agg #[.int .u8 (0), .int .u8 (0)]), .struct #[⟨"lo", 5, 0, false, "", "unicode/utf8", 0⟩, ⟨"hi", 5, 1, false, "", "unicode/utf8", 1⟩]⟩
 | 169 => some ⟨32, 32, some (.agg #[.int .u8 (0), .int .u8 (0), .int .u8 (0), .int .u8 (0), .int .u8 (0), .int .u8 (0), .int .u8 (0), .int .u8 (0), .int .u8 (0), .int .u8 (0), .int .u8 (0), .int .u8 (0), .int .u8 (0), .int .u8 (0), .int .u8 (0), .int .u8 (0), .int .u8 (0), .int .u8 (0), .int .u8 (0), .int .u8 (0), .int .u8 (0), .int .u8 (0), .int .u8 (0), .int .u8 (0), .int .u8 (0), .int .u8 (0), .int .u8 (0), .int .u8 (0), .int .u8 (0), .int .u8 (0), .int .u8 (0), .int .u8 (0)]), .array 16 168⟩
 | 171 => some ⟨32, 32, some (.agg #[.int .u8 (0), .int .u8 (0), .int .u8 (0), .int .u8 (0), .int .u8 (0), .int .u8 (0), .int .u8 (0), .int .u8 (0), .int .u8 (0), .int .u8 (0), .int .u8 (0), .int .u8 (0), .int .u8 (0), .int .u8 (0), .int .u8 (0), .int .u8 (0), .int .u8 (0), .int .u8 (0), .int .u8 (0), .int .u8 (0), .int .u8 (0), .int .u8 (0), .int .u8 (0), .int .u8 (0), .int .u8 (0), .int .u8 (0), .int .u8 (0), .int .u8 (0), .int .u8 (0), .int .u8 (0), .int .u8 (0), .int .u8 (0)]), .array 32 5⟩
 | 172 => some ⟨64, 64, some (.agg #[.int .u8 (0), .int .u8 (0), .int .u8 (0), .int .u8 (0), .int .u8 (0), .int .u8 (0), .int .u8 (0), .int .u8 (0), .int .u8 (0), .int .u8 (0), .int .u8 (0), .int .u8 (0), .int .u8 (0), .int .u8 (0), .int .u8 (0), .int .u8 (0), .int .u8 (0), .int .u8 (0), .int .u8 (0), .int .u8 (0), .int .u8 (0), .int .u8 (0), .int .u8 (0), .int .u8 (0), .int .u8 (0), .int .u8 (0), .int .u8 (0), .int .u8 (0), .int .u8 (0), .int .u8 (0), .int .u8 (0), .int .u8 (0), .int .u8 (0), .int .u8 (0), .int .u8 (0), .int .u8 (0), .int .u8 (0), .int .u8 (0), .int .u8 (0), .int .u8 (0), .int .u8 (0), .int .u8 (0), .int .u8 (0), .int .u8 (0), .int .u8 (0), .int .u8 (0), .int .u8 (0), .int .u8 (0), .int .u8 (0), .int .u8 (0), .int .u8 (0), .int .u8 (0), .int .u8 (0), .int .u8 (0), .int .u8 (0), .int .u8 (0), .int .u8 (0), .int .u8 (0), .int .u8 (0), .int .u8 (0), .int .u8 (0), .int .u8 (0), .int .u8 (0), .int .u8 (0)]), .array 64 5⟩
 | 177 => some ⟨0, 0, some (.agg #[]), .array 0 16⟩
 | 187 => some ⟨1, 16, some (.agg #[.string ⟨#[]⟩]), .struct #[⟨"s", 9, 0, false, "", "errors", 0⟩]⟩
 | _ => none
theorem tokOf {T : TypeId} {a b : Nat} {c : Option Value} {u : TypeDesc} (h : (P.info? T).map (fun i => (i.size, i.bytes, i.zero)) = some (a, b, c)) (hu : P.underlying T = some u)
  (hz : ∀ z, c = some z → z.cells.size = a ∧ z.cells.toList.all Value.oneCell' = true) : TOk P T ⟨a, b, c, u⟩ := by
 cases hi : P.info? T with
 | none => rw [hi] at h; cases h
 | some info => rw [hi] at h; cases h; exact ⟨⟨info, hi, rfl, rfl, rfl⟩, hu, hz⟩
theorem ttOk : TTok P tt := fun T i h => by
 unfold tt at h
 split at h <;> first | (cases h; done) | (cases h; exact tokOf (by kernel_rfl) (by kernel_rfl) (fun z h => by cases h; exact ⟨rfl, rfl⟩))
theorem mix : P.follows .mixedOrders = true := by kernel_rfl
namespace T
abbrev int : TypeId := 3
abbrev bool : TypeId := 4
abbrev uint8 : TypeId := 5
abbrev string : TypeId := 9
abbrev L_api_Rat : TypeId := 22
abbrev api_Film : TypeId := 24
abbrev L_uint32 : TypeId := 30
abbrev api_Rat : TypeId := 32
abbrev strings_Builder : TypeId := 59
abbrev uint32 : TypeId := 92
end T
namespace F
abbrev penumbralaw20_FilmBack : FuncId := 7
abbrev penumbraref20_Long : FuncId := 8
abbrev penumbralaw20_fixed : FuncId := 9
abbrev film_Dump : FuncId := 10
abbrev film_Ppm : FuncId := 12
abbrev film_Add : FuncId := 14
abbrev film_New : FuncId := 18
abbrev film_Check : FuncId := 20
abbrev penumbraref20_Is : FuncId := 22
abbrev rat_Sign : FuncId := 23
abbrev rat_Of : FuncId := 24
abbrev rat_Sum : FuncId := 27
abbrev rat_Product : FuncId := 28
abbrev rat_Cmp : FuncId := 31
abbrev penumbraref03_Is : FuncId := 32
abbrev rat_Read : FuncId := 33
abbrev film_Parse : FuncId := 36
abbrev P_strings_Builder_WriteString : FuncId := 37
abbrev strconv_Itoa : FuncId := 38
abbrev decimal_Print : FuncId := 39
abbrev P_strings_Builder_String : FuncId := 40
abbrev film_code : FuncId := 43
abbrev film_copied : FuncId := 45
abbrev film_sizes : FuncId := 49
abbrev film_Check_1 : FuncId := 52
abbrev rat_Check : FuncId := 53
abbrev slices_ContainsFunc_L_api_Rat_api_Rat : FuncId := 54
abbrev penumbraref09_Same : FuncId := 56
abbrev nat_Bits : FuncId := 57
abbrev rat_made : FuncId := 58
abbrev rat_size : FuncId := 59
abbrev rat_one : FuncId := 60
abbrev rat_times : FuncId := 61
abbrev rat_plus : FuncId := 65
abbrev nat_Cmp : FuncId := 66
abbrev nat_Mul : FuncId := 67
abbrev penumbraref01_Same : FuncId := 68
abbrev strings_CutSuffix : FuncId := 69
abbrev strings_Split : FuncId := 70
abbrev film_head : FuncId := 71
abbrev decimal_Parse : FuncId := 72
abbrev P_strings_Builder_copyCheck : FuncId := 73
abbrev internal_strconv_Itoa : FuncId := 74
abbrev decimal_Natural : FuncId := 75
abbrev rat_Floor : FuncId := 78
abbrev lists_Each_api_Rat_api_Rat : FuncId := 80
abbrev slices_Equal_L_uint32_uint32 : FuncId := 88
abbrev slices_IndexFunc_L_api_Rat_api_Rat : FuncId := 89
abbrev nat_trim : FuncId := 90
abbrev math_bits_LeadingZeros32 : FuncId := 91
abbrev nat_Norm : FuncId := 92
abbrev root_Gcd : FuncId := 93
abbrev nat_DivMod : FuncId := 94
abbrev nat_Of : FuncId := 95
abbrev rat_whole : FuncId := 97
abbrev nat_Add : FuncId := 98
abbrev nat_Sub : FuncId := 99
abbrev internal_stringslite_CutSuffix : FuncId := 100
abbrev strings_genSplit : FuncId := 101
abbrev film_whole : FuncId := 102
abbrev strings_CutPrefix : FuncId := 103
abbrev decimal_digits : FuncId := 104
abbrev decimal_number : FuncId := 106
abbrev internal_strconv_FormatInt : FuncId := 108
abbrev slices_Backward_L_string_string : FuncId := 109
abbrev strings_TrimLeft : FuncId := 110
abbrev math_bits_Len32 : FuncId := 117
abbrev slices_Clone_L_uint32_uint32 : FuncId := 118
abbrev nat_small : FuncId := 119
abbrev nat_long : FuncId := 120
abbrev math_bits_Add32 : FuncId := 122
abbrev math_bits_Sub32 : FuncId := 123
abbrev internal_stringslite_HasSuffix : FuncId := 124
abbrev strings_Count : FuncId := 126
abbrev strings_Index : FuncId := 127
abbrev internal_stringslite_CutPrefix : FuncId := 128
abbrev internal_strconv_small : FuncId := 133
abbrev slices_Backward_L_string_string_1 : FuncId := 137
abbrev strings_trimLeftByte : FuncId := 138
abbrev strings_makeASCIISet : FuncId := 139
abbrev strings_trimLeftASCII : FuncId := 140
abbrev math_bits_Div32 : FuncId := 143
abbrev nat_Shl : FuncId := 144
abbrev nat_less : FuncId := 145
abbrev nat_back : FuncId := 146
abbrev nat_shr : FuncId := 147
abbrev internal_bytealg_CountString : FuncId := 150
abbrev internal_stringslite_Index : FuncId := 151
abbrev internal_stringslite_HasPrefix : FuncId := 152
abbrev P_strings_asciiSet_contains : FuncId := 161
abbrev internal_stringslite_IndexByte : FuncId := 164
abbrev internal_bytealg_IndexByteString : FuncId := 172
end F
namespace B
noncomputable abbrev penumbralaw20_FilmBack : Func := Go.Proofs.Tryz.f7
noncomputable abbrev penumbraref20_Long : Func := Go.Proofs.Tryz.f8
noncomputable abbrev penumbralaw20_fixed : Func := Go.Proofs.Tryz.f9
noncomputable abbrev film_Dump : Func := Go.Proofs.Tryz.f10
noncomputable abbrev film_Ppm : Func := Go.Proofs.Tryz.f12
noncomputable abbrev film_Add : Func := Go.Proofs.Tryz.f14
noncomputable abbrev film_New : Func := Go.Proofs.Tryz.f18
noncomputable abbrev film_Check : Func := Go.Proofs.Tryz.f20
noncomputable abbrev penumbraref20_Is : Func := Go.Proofs.Tryz.f22
noncomputable abbrev rat_Sign : Func := Go.Proofs.Tryz.f23
noncomputable abbrev rat_Of : Func := Go.Proofs.Tryz.f24
noncomputable abbrev rat_Sum : Func := Go.Proofs.Tryz.f27
noncomputable abbrev rat_Product : Func := Go.Proofs.Tryz.f28
noncomputable abbrev rat_Cmp : Func := Go.Proofs.Tryz.f31
noncomputable abbrev penumbraref03_Is : Func := Go.Proofs.Tryz.f32
noncomputable abbrev rat_Read : Func := Go.Proofs.Tryz.f33
noncomputable abbrev film_Parse : Func := Go.Proofs.Tryz.f36
noncomputable abbrev P_strings_Builder_WriteString : Func := Go.Proofs.Tryz.f37
noncomputable abbrev strconv_Itoa : Func := Go.Proofs.Tryz.f38
noncomputable abbrev decimal_Print : Func := Go.Proofs.Tryz.f39
noncomputable abbrev P_strings_Builder_String : Func := Go.Proofs.Tryz.f40
noncomputable abbrev film_code : Func := Go.Proofs.Tryz.f43
noncomputable abbrev film_copied : Func := Go.Proofs.Tryz.f45
noncomputable abbrev film_sizes : Func := Go.Proofs.Tryz.f49
noncomputable abbrev film_Check_1 : Func := Go.Proofs.Tryz.f52
noncomputable abbrev rat_Check : Func := Go.Proofs.Tryz.f53
noncomputable abbrev slices_ContainsFunc_L_api_Rat_api_Rat : Func := Go.Proofs.Tryz.f54
noncomputable abbrev penumbraref09_Same : Func := Go.Proofs.Tryz.f56
noncomputable abbrev nat_Bits : Func := Go.Proofs.Tryz.f57
noncomputable abbrev rat_made : Func := Go.Proofs.Tryz.f58
noncomputable abbrev rat_size : Func := Go.Proofs.Tryz.f59
noncomputable abbrev rat_one : Func := Go.Proofs.Tryz.f60
noncomputable abbrev rat_times : Func := Go.Proofs.Tryz.f61
noncomputable abbrev rat_plus : Func := Go.Proofs.Tryz.f65
noncomputable abbrev nat_Cmp : Func := Go.Proofs.Tryz.f66
noncomputable abbrev nat_Mul : Func := Go.Proofs.Tryz.f67
noncomputable abbrev penumbraref01_Same : Func := Go.Proofs.Tryz.f68
noncomputable abbrev strings_CutSuffix : Func := Go.Proofs.Tryz.f69
noncomputable abbrev strings_Split : Func := Go.Proofs.Tryz.f70
noncomputable abbrev film_head : Func := Go.Proofs.Tryz.f71
noncomputable abbrev decimal_Parse : Func := Go.Proofs.Tryz.f72
noncomputable abbrev P_strings_Builder_copyCheck : Func := Go.Proofs.Tryz.f73
noncomputable abbrev internal_strconv_Itoa : Func := Go.Proofs.Tryz.f74
noncomputable abbrev decimal_Natural : Func := Go.Proofs.Tryz.f75
noncomputable abbrev rat_Floor : Func := Go.Proofs.Tryz.f78
noncomputable abbrev lists_Each_api_Rat_api_Rat : Func := Go.Proofs.Tryz.f80
noncomputable abbrev slices_Equal_L_uint32_uint32 : Func := Go.Proofs.Tryz.f88
noncomputable abbrev slices_IndexFunc_L_api_Rat_api_Rat : Func := Go.Proofs.Tryz.f89
noncomputable abbrev nat_trim : Func := Go.Proofs.Tryz.f90
noncomputable abbrev math_bits_LeadingZeros32 : Func := Go.Proofs.Tryz.f91
noncomputable abbrev nat_Norm : Func := Go.Proofs.Tryz.f92
noncomputable abbrev root_Gcd : Func := Go.Proofs.Tryz.f93
noncomputable abbrev nat_DivMod : Func := Go.Proofs.Tryz.f94
noncomputable abbrev nat_Of : Func := Go.Proofs.Tryz.f95
noncomputable abbrev rat_whole : Func := Go.Proofs.Tryz.f97
noncomputable abbrev nat_Add : Func := Go.Proofs.Tryz.f98
noncomputable abbrev nat_Sub : Func := Go.Proofs.Tryz.f99
noncomputable abbrev internal_stringslite_CutSuffix : Func := Go.Proofs.Tryz.f100
noncomputable abbrev strings_genSplit : Func := Go.Proofs.Tryz.f101
noncomputable abbrev film_whole : Func := Go.Proofs.Tryz.f102
noncomputable abbrev strings_CutPrefix : Func := Go.Proofs.Tryz.f103
noncomputable abbrev decimal_digits : Func := Go.Proofs.Tryz.f104
noncomputable abbrev decimal_number : Func := Go.Proofs.Tryz.f106
noncomputable abbrev internal_strconv_FormatInt : Func := Go.Proofs.Tryz.f108
noncomputable abbrev slices_Backward_L_string_string : Func := Go.Proofs.Tryz.f109
noncomputable abbrev strings_TrimLeft : Func := Go.Proofs.Tryz.f110
noncomputable abbrev math_bits_Len32 : Func := Go.Proofs.Tryz.f117
noncomputable abbrev slices_Clone_L_uint32_uint32 : Func := Go.Proofs.Tryz.f118
noncomputable abbrev nat_small : Func := Go.Proofs.Tryz.f119
noncomputable abbrev nat_long : Func := Go.Proofs.Tryz.f120
noncomputable abbrev math_bits_Add32 : Func := Go.Proofs.Tryz.f122
noncomputable abbrev math_bits_Sub32 : Func := Go.Proofs.Tryz.f123
noncomputable abbrev internal_stringslite_HasSuffix : Func := Go.Proofs.Tryz.f124
noncomputable abbrev strings_Count : Func := Go.Proofs.Tryz.f126
noncomputable abbrev strings_Index : Func := Go.Proofs.Tryz.f127
noncomputable abbrev internal_stringslite_CutPrefix : Func := Go.Proofs.Tryz.f128
noncomputable abbrev internal_strconv_small : Func := Go.Proofs.Tryz.f133
noncomputable abbrev slices_Backward_L_string_string_1 : Func := Go.Proofs.Tryz.f137
noncomputable abbrev strings_trimLeftByte : Func := Go.Proofs.Tryz.f138
noncomputable abbrev strings_makeASCIISet : Func := Go.Proofs.Tryz.f139
noncomputable abbrev strings_trimLeftASCII : Func := Go.Proofs.Tryz.f140
noncomputable abbrev math_bits_Div32 : Func := Go.Proofs.Tryz.f143
noncomputable abbrev nat_Shl : Func := Go.Proofs.Tryz.f144
noncomputable abbrev nat_less : Func := Go.Proofs.Tryz.f145
noncomputable abbrev nat_back : Func := Go.Proofs.Tryz.f146
noncomputable abbrev nat_shr : Func := Go.Proofs.Tryz.f147
noncomputable abbrev internal_bytealg_CountString : Func := Go.Proofs.Tryz.f150
noncomputable abbrev internal_stringslite_Index : Func := Go.Proofs.Tryz.f151
noncomputable abbrev internal_stringslite_HasPrefix : Func := Go.Proofs.Tryz.f152
noncomputable abbrev P_strings_asciiSet_contains : Func := Go.Proofs.Tryz.f161
noncomputable abbrev internal_stringslite_IndexByte : Func := Go.Proofs.Tryz.f164
noncomputable abbrev internal_bytealg_IndexByteString : Func := Go.Proofs.Tryz.f172
end B
def ro : FuncId → Bool
 | _ => false
def bw : FuncId → Bool
 | 137 => true
 | _ => false
theorem bwOk : ∀ g, bw g = true → BackOk P g := fun g h => by
 unfold bw at h
 split at h <;> first | (cases h; done) | skip
 ·exact ⟨⟨_, Go.Proofs.Tryz.func137, by kernel_rfl, by kernel_rfl⟩, back_in⟩
def ty : TypeId → Bool
 | 59 => true
 | _ => false
def la : TypeId → TypeId → Bool
 | 59, 59 => true
 | _, _ => false
def ne : FuncId → Bool
 | 107 => true
 | _ => false
theorem laOk : ∀ T t, la T t = true → liesAt P P.depth T 1 0 t 1 = true := fun T t h => by
 unfold la at h
 split at h <;> first | (cases h; done) | skip
 ·kernel_rfl
theorem neOk : ∀ g, ne g = true → ∀ (v : Value) (w : World), (callFunc g #[v]).run P w = .ok (.value v) w := fun g h => by
 unfold ne at h
 split at h <;> first | (cases h; done) | skip
 ·exact ne_same Go.Proofs.Tryz.func107 (by kernel_rfl) (by kernel_rfl) (by kernel_rfl) (by kernel_rfl)
def CC (C : FuncId → List D → V → Prop) : Prop := ∀ g ds r, Good P g (ds.map V.d) [] r [] → C g ds r
def CC2 (C2 : FuncId → List V → List Blk → V → List Blk → Prop) : Prop := ∀ g args bs r bs', Good P g args bs r bs' → C2 g args bs r bs'
theorem goodOf {f : FuncId} {fn : Func} (hf : P.funcs[f]? = some fn) (hn : (fn.name == "runtime.NumGoroutine") = false) (hc : (match fn.body with | some c => codeOk fn.ntmps c | none => false) = true)
  (md : FuncId → Bool) {args : List V} {r : V} (ha : args.length ≤ fn.ntmps) (h : ∀ C C2, CC C → CC2 C2 → wpF Ω ⟨tt, C, C2, md, 0, ro, ty, la, ne, bw⟩ fn args (fun x => x = r)) : Good P f args [] r [] :=
 good_of_wpF (envOf_ok ttOk laOk neOk bwOk md 0 ro ty) mix rfl hf hn hc ha (h _ _ (fun _ _ _ h => h) (fun _ _ _ _ _ h => h))
theorem goodOf2 {f : FuncId} {fn : Func} (hf : P.funcs[f]? = some fn) (hn : (fn.name == "runtime.NumGoroutine") = false) (hc : (match fn.body with | some c => codeOk fn.ntmps c | none => false) = true)
  (md : FuncId → Bool) {args : List V} {bs bs' : List Blk} {r : V} (hb : bs.length ≤ 1000) (ha : args.length ≤ fn.ntmps) (h : ∀ C C2, CC C → CC2 C2 → wpF2 Ω ⟨tt, C, C2, md, bs.length, ro, ty, la, ne, bw⟩ fn args bs (fun x b => x = r ∧ b = bs')) : Good P f args bs r bs' :=
 good_of_wpF2 (envOf_ok ttOk laOk neOk bwOk md bs.length ro ty) mix rfl hb hf hn hc ha (h _ _ (fun _ _ _ h => h) (fun _ _ _ _ _ h => h))
theorem NX.internal_bytealg_CountString : NatFn P F.internal_bytealg_CountString Extern.BytealgCount.count := ⟨_, Go.Proofs.Tryz.func150, by kernel_rfl, by kernel_rfl, by kernel_rfl, by kernel_rfl⟩
theorem NX.internal_bytealg_IndexByteString : NatFn P F.internal_bytealg_IndexByteString Extern.BytealgIndexByte.indexByte := ⟨_, Go.Proofs.Tryz.func172, by kernel_rfl, by kernel_rfl, by kernel_rfl, by kernel_rfl⟩
def md : FuncId → Bool
 | 18 => true
 | 19 => true
 | 37 => true
 | 40 => true
 | 45 => true
 | 54 => true
 | 73 => true
 | 80 => true
 | 89 => true
 | 109 => true
 | 131 => true
 | 132 => true
 | 140 => true
 | 145 => true
 | 146 => true
 | 155 => true
 | 161 => true
 | 191 => true
 | _ => false
namespace G
theorem penumbralaw20_FilmBack {args : List V} {r : V} (h : ∀ C C2, CC C → CC2 C2 → wpF Ω ⟨tt, C, C2, md, 0, ro, ty, la, ne, bw⟩ B.penumbralaw20_FilmBack args (fun x => x = r)) (ha : args.length ≤ (B.penumbralaw20_FilmBack).ntmps := by exact of_decide_eq_true rfl) : Good P F.penumbralaw20_FilmBack args [] r [] := goodOf Go.Proofs.Tryz.func7 (by kernel_rfl) (by kernel_rfl) md ha h
theorem penumbraref20_Long {args : List V} {r : V} (h : ∀ C C2, CC C → CC2 C2 → wpF Ω ⟨tt, C, C2, md, 0, ro, ty, la, ne, bw⟩ B.penumbraref20_Long args (fun x => x = r)) (ha : args.length ≤ (B.penumbraref20_Long).ntmps := by exact of_decide_eq_true rfl) : Good P F.penumbraref20_Long args [] r [] := goodOf Go.Proofs.Tryz.func8 (by kernel_rfl) (by kernel_rfl) md ha h
theorem penumbralaw20_fixed {args : List V} {r : V} (h : ∀ C C2, CC C → CC2 C2 → wpF Ω ⟨tt, C, C2, md, 0, ro, ty, la, ne, bw⟩ B.penumbralaw20_fixed args (fun x => x = r)) (ha : args.length ≤ (B.penumbralaw20_fixed).ntmps := by exact of_decide_eq_true rfl) : Good P F.penumbralaw20_fixed args [] r [] := goodOf Go.Proofs.Tryz.func9 (by kernel_rfl) (by kernel_rfl) md ha h
theorem film_Dump {args : List V} {r : V} (h : ∀ C C2, CC C → CC2 C2 → wpF Ω ⟨tt, C, C2, md, 0, ro, ty, la, ne, bw⟩ B.film_Dump args (fun x => x = r)) (ha : args.length ≤ (B.film_Dump).ntmps := by exact of_decide_eq_true rfl) : Good P F.film_Dump args [] r [] := goodOf Go.Proofs.Tryz.func10 (by kernel_rfl) (by kernel_rfl) md ha h
theorem film_Ppm {args : List V} {r : V} (h : ∀ C C2, CC C → CC2 C2 → wpF Ω ⟨tt, C, C2, md, 0, ro, ty, la, ne, bw⟩ B.film_Ppm args (fun x => x = r)) (ha : args.length ≤ (B.film_Ppm).ntmps := by exact of_decide_eq_true rfl) : Good P F.film_Ppm args [] r [] := goodOf Go.Proofs.Tryz.func12 (by kernel_rfl) (by kernel_rfl) md ha h
theorem film_Add {args : List V} {r : V} (h : ∀ C C2, CC C → CC2 C2 → wpF Ω ⟨tt, C, C2, md, 0, ro, ty, la, ne, bw⟩ B.film_Add args (fun x => x = r)) (ha : args.length ≤ (B.film_Add).ntmps := by exact of_decide_eq_true rfl) : Good P F.film_Add args [] r [] := goodOf Go.Proofs.Tryz.func14 (by kernel_rfl) (by kernel_rfl) md ha h
theorem film_New {args : List V} {bs bs' : List Blk} {r : V} (h : ∀ C C2, CC C → CC2 C2 → wpF2 Ω ⟨tt, C, C2, md, bs.length, ro, ty, la, ne, bw⟩ B.film_New args bs (fun x b => x = r ∧ b = bs')) (hb : bs.length ≤ 1000 := by decide) (ha : args.length ≤ (B.film_New).ntmps := by exact of_decide_eq_true rfl) : Good P F.film_New args bs r bs' := goodOf2 Go.Proofs.Tryz.func18 (by kernel_rfl) (by kernel_rfl) md hb ha h
theorem film_Check {args : List V} {r : V} (h : ∀ C C2, CC C → CC2 C2 → wpF Ω ⟨tt, C, C2, md, 0, ro, ty, la, ne, bw⟩ B.film_Check args (fun x => x = r)) (ha : args.length ≤ (B.film_Check).ntmps := by exact of_decide_eq_true rfl) : Good P F.film_Check args [] r [] := goodOf Go.Proofs.Tryz.func20 (by kernel_rfl) (by kernel_rfl) md ha h
theorem penumbraref20_Is {args : List V} {r : V} (h : ∀ C C2, CC C → CC2 C2 → wpF Ω ⟨tt, C, C2, md, 0, ro, ty, la, ne, bw⟩ B.penumbraref20_Is args (fun x => x = r)) (ha : args.length ≤ (B.penumbraref20_Is).ntmps := by exact of_decide_eq_true rfl) : Good P F.penumbraref20_Is args [] r [] := goodOf Go.Proofs.Tryz.func22 (by kernel_rfl) (by kernel_rfl) md ha h
theorem rat_Sign {args : List V} {r : V} (h : ∀ C C2, CC C → CC2 C2 → wpF Ω ⟨tt, C, C2, md, 0, ro, ty, la, ne, bw⟩ B.rat_Sign args (fun x => x = r)) (ha : args.length ≤ (B.rat_Sign).ntmps := by exact of_decide_eq_true rfl) : Good P F.rat_Sign args [] r [] := goodOf Go.Proofs.Tryz.func23 (by kernel_rfl) (by kernel_rfl) md ha h
theorem rat_Of {args : List V} {r : V} (h : ∀ C C2, CC C → CC2 C2 → wpF Ω ⟨tt, C, C2, md, 0, ro, ty, la, ne, bw⟩ B.rat_Of args (fun x => x = r)) (ha : args.length ≤ (B.rat_Of).ntmps := by exact of_decide_eq_true rfl) : Good P F.rat_Of args [] r [] := goodOf Go.Proofs.Tryz.func24 (by kernel_rfl) (by kernel_rfl) md ha h
theorem rat_Sum {args : List V} {r : V} (h : ∀ C C2, CC C → CC2 C2 → wpF Ω ⟨tt, C, C2, md, 0, ro, ty, la, ne, bw⟩ B.rat_Sum args (fun x => x = r)) (ha : args.length ≤ (B.rat_Sum).ntmps := by exact of_decide_eq_true rfl) : Good P F.rat_Sum args [] r [] := goodOf Go.Proofs.Tryz.func27 (by kernel_rfl) (by kernel_rfl) md ha h
theorem rat_Product {args : List V} {r : V} (h : ∀ C C2, CC C → CC2 C2 → wpF Ω ⟨tt, C, C2, md, 0, ro, ty, la, ne, bw⟩ B.rat_Product args (fun x => x = r)) (ha : args.length ≤ (B.rat_Product).ntmps := by exact of_decide_eq_true rfl) : Good P F.rat_Product args [] r [] := goodOf Go.Proofs.Tryz.func28 (by kernel_rfl) (by kernel_rfl) md ha h
theorem rat_Cmp {args : List V} {r : V} (h : ∀ C C2, CC C → CC2 C2 → wpF Ω ⟨tt, C, C2, md, 0, ro, ty, la, ne, bw⟩ B.rat_Cmp args (fun x => x = r)) (ha : args.length ≤ (B.rat_Cmp).ntmps := by exact of_decide_eq_true rfl) : Good P F.rat_Cmp args [] r [] := goodOf Go.Proofs.Tryz.func31 (by kernel_rfl) (by kernel_rfl) md ha h
theorem penumbraref03_Is {args : List V} {r : V} (h : ∀ C C2, CC C → CC2 C2 → wpF Ω ⟨tt, C, C2, md, 0, ro, ty, la, ne, bw⟩ B.penumbraref03_Is args (fun x => x = r)) (ha : args.length ≤ (B.penumbraref03_Is).ntmps := by exact of_decide_eq_true rfl) : Good P F.penumbraref03_Is args [] r [] := goodOf Go.Proofs.Tryz.func32 (by kernel_rfl) (by kernel_rfl) md ha h
theorem rat_Read {args : List V} {r : V} (h : ∀ C C2, CC C → CC2 C2 → wpF Ω ⟨tt, C, C2, md, 0, ro, ty, la, ne, bw⟩ B.rat_Read args (fun x => x = r)) (ha : args.length ≤ (B.rat_Read).ntmps := by exact of_decide_eq_true rfl) : Good P F.rat_Read args [] r [] := goodOf Go.Proofs.Tryz.func33 (by kernel_rfl) (by kernel_rfl) md ha h
theorem film_Parse {args : List V} {r : V} (h : ∀ C C2, CC C → CC2 C2 → wpF Ω ⟨tt, C, C2, md, 0, ro, ty, la, ne, bw⟩ B.film_Parse args (fun x => x = r)) (ha : args.length ≤ (B.film_Parse).ntmps := by exact of_decide_eq_true rfl) : Good P F.film_Parse args [] r [] := goodOf Go.Proofs.Tryz.func36 (by kernel_rfl) (by kernel_rfl) md ha h
theorem P_strings_Builder_WriteString {args : List V} {bs bs' : List Blk} {r : V} (h : ∀ C C2, CC C → CC2 C2 → wpF2 Ω ⟨tt, C, C2, md, bs.length, ro, ty, la, ne, bw⟩ B.P_strings_Builder_WriteString args bs (fun x b => x = r ∧ b = bs')) (hb : bs.length ≤ 1000 := by decide) (ha : args.length ≤ (B.P_strings_Builder_WriteString).ntmps := by exact of_decide_eq_true rfl) : Good P F.P_strings_Builder_WriteString args bs r bs' := goodOf2 Go.Proofs.Tryz.func37 (by kernel_rfl) (by kernel_rfl) md hb ha h
theorem strconv_Itoa {args : List V} {r : V} (h : ∀ C C2, CC C → CC2 C2 → wpF Ω ⟨tt, C, C2, md, 0, ro, ty, la, ne, bw⟩ B.strconv_Itoa args (fun x => x = r)) (ha : args.length ≤ (B.strconv_Itoa).ntmps := by exact of_decide_eq_true rfl) : Good P F.strconv_Itoa args [] r [] := goodOf Go.Proofs.Tryz.func38 (by kernel_rfl) (by kernel_rfl) md ha h
theorem decimal_Print {args : List V} {r : V} (h : ∀ C C2, CC C → CC2 C2 → wpF Ω ⟨tt, C, C2, md, 0, ro, ty, la, ne, bw⟩ B.decimal_Print args (fun x => x = r)) (ha : args.length ≤ (B.decimal_Print).ntmps := by exact of_decide_eq_true rfl) : Good P F.decimal_Print args [] r [] := goodOf Go.Proofs.Tryz.func39 (by kernel_rfl) (by kernel_rfl) md ha h
theorem P_strings_Builder_String {args : List V} {bs bs' : List Blk} {r : V} (h : ∀ C C2, CC C → CC2 C2 → wpF2 Ω ⟨tt, C, C2, md, bs.length, ro, ty, la, ne, bw⟩ B.P_strings_Builder_String args bs (fun x b => x = r ∧ b = bs')) (hb : bs.length ≤ 1000 := by decide) (ha : args.length ≤ (B.P_strings_Builder_String).ntmps := by exact of_decide_eq_true rfl) : Good P F.P_strings_Builder_String args bs r bs' := goodOf2 Go.Proofs.Tryz.func40 (by kernel_rfl) (by kernel_rfl) md hb ha h
theorem film_code {args : List V} {r : V} (h : ∀ C C2, CC C → CC2 C2 → wpF Ω ⟨tt, C, C2, md, 0, ro, ty, la, ne, bw⟩ B.film_code args (fun x => x = r)) (ha : args.length ≤ (B.film_code).ntmps := by exact of_decide_eq_true rfl) : Good P F.film_code args [] r [] := goodOf Go.Proofs.Tryz.func43 (by kernel_rfl) (by kernel_rfl) md ha h
theorem film_copied {args : List V} {bs bs' : List Blk} {r : V} (h : ∀ C C2, CC C → CC2 C2 → wpF2 Ω ⟨tt, C, C2, md, bs.length, ro, ty, la, ne, bw⟩ B.film_copied args bs (fun x b => x = r ∧ b = bs')) (hb : bs.length ≤ 1000 := by decide) (ha : args.length ≤ (B.film_copied).ntmps := by exact of_decide_eq_true rfl) : Good P F.film_copied args bs r bs' := goodOf2 Go.Proofs.Tryz.func45 (by kernel_rfl) (by kernel_rfl) md hb ha h
theorem film_sizes {args : List V} {r : V} (h : ∀ C C2, CC C → CC2 C2 → wpF Ω ⟨tt, C, C2, md, 0, ro, ty, la, ne, bw⟩ B.film_sizes args (fun x => x = r)) (ha : args.length ≤ (B.film_sizes).ntmps := by exact of_decide_eq_true rfl) : Good P F.film_sizes args [] r [] := goodOf Go.Proofs.Tryz.func49 (by kernel_rfl) (by kernel_rfl) md ha h
theorem film_Check_1 {args : List V} {r : V} (h : ∀ C C2, CC C → CC2 C2 → wpF Ω ⟨tt, C, C2, md, 0, ro, ty, la, ne, bw⟩ B.film_Check_1 args (fun x => x = r)) (ha : args.length ≤ (B.film_Check_1).ntmps := by exact of_decide_eq_true rfl) : Good P F.film_Check_1 args [] r [] := goodOf Go.Proofs.Tryz.func52 (by kernel_rfl) (by kernel_rfl) md ha h
theorem rat_Check {args : List V} {r : V} (h : ∀ C C2, CC C → CC2 C2 → wpF Ω ⟨tt, C, C2, md, 0, ro, ty, la, ne, bw⟩ B.rat_Check args (fun x => x = r)) (ha : args.length ≤ (B.rat_Check).ntmps := by exact of_decide_eq_true rfl) : Good P F.rat_Check args [] r [] := goodOf Go.Proofs.Tryz.func53 (by kernel_rfl) (by kernel_rfl) md ha h
theorem slices_ContainsFunc_L_api_Rat_api_Rat {args : List V} {bs bs' : List Blk} {r : V} (h : ∀ C C2, CC C → CC2 C2 → wpF2 Ω ⟨tt, C, C2, md, bs.length, ro, ty, la, ne, bw⟩ B.slices_ContainsFunc_L_api_Rat_api_Rat args bs (fun x b => x = r ∧ b = bs')) (hb : bs.length ≤ 1000 := by decide) (ha : args.length ≤ (B.slices_ContainsFunc_L_api_Rat_api_Rat).ntmps := by exact of_decide_eq_true rfl) : Good P F.slices_ContainsFunc_L_api_Rat_api_Rat args bs r bs' := goodOf2 Go.Proofs.Tryz.func54 (by kernel_rfl) (by kernel_rfl) md hb ha h
theorem penumbraref09_Same {args : List V} {r : V} (h : ∀ C C2, CC C → CC2 C2 → wpF Ω ⟨tt, C, C2, md, 0, ro, ty, la, ne, bw⟩ B.penumbraref09_Same args (fun x => x = r)) (ha : args.length ≤ (B.penumbraref09_Same).ntmps := by exact of_decide_eq_true rfl) : Good P F.penumbraref09_Same args [] r [] := goodOf Go.Proofs.Tryz.func56 (by kernel_rfl) (by kernel_rfl) md ha h
theorem nat_Bits {args : List V} {r : V} (h : ∀ C C2, CC C → CC2 C2 → wpF Ω ⟨tt, C, C2, md, 0, ro, ty, la, ne, bw⟩ B.nat_Bits args (fun x => x = r)) (ha : args.length ≤ (B.nat_Bits).ntmps := by exact of_decide_eq_true rfl) : Good P F.nat_Bits args [] r [] := goodOf Go.Proofs.Tryz.func57 (by kernel_rfl) (by kernel_rfl) md ha h
theorem rat_made {args : List V} {r : V} (h : ∀ C C2, CC C → CC2 C2 → wpF Ω ⟨tt, C, C2, md, 0, ro, ty, la, ne, bw⟩ B.rat_made args (fun x => x = r)) (ha : args.length ≤ (B.rat_made).ntmps := by exact of_decide_eq_true rfl) : Good P F.rat_made args [] r [] := goodOf Go.Proofs.Tryz.func58 (by kernel_rfl) (by kernel_rfl) md ha h
theorem rat_size {args : List V} {r : V} (h : ∀ C C2, CC C → CC2 C2 → wpF Ω ⟨tt, C, C2, md, 0, ro, ty, la, ne, bw⟩ B.rat_size args (fun x => x = r)) (ha : args.length ≤ (B.rat_size).ntmps := by exact of_decide_eq_true rfl) : Good P F.rat_size args [] r [] := goodOf Go.Proofs.Tryz.func59 (by kernel_rfl) (by kernel_rfl) md ha h
theorem rat_one {args : List V} {r : V} (h : ∀ C C2, CC C → CC2 C2 → wpF Ω ⟨tt, C, C2, md, 0, ro, ty, la, ne, bw⟩ B.rat_one args (fun x => x = r)) (ha : args.length ≤ (B.rat_one).ntmps := by exact of_decide_eq_true rfl) : Good P F.rat_one args [] r [] := goodOf Go.Proofs.Tryz.func60 (by kernel_rfl) (by kernel_rfl) md ha h
theorem rat_times {args : List V} {r : V} (h : ∀ C C2, CC C → CC2 C2 → wpF Ω ⟨tt, C, C2, md, 0, ro, ty, la, ne, bw⟩ B.rat_times args (fun x => x = r)) (ha : args.length ≤ (B.rat_times).ntmps := by exact of_decide_eq_true rfl) : Good P F.rat_times args [] r [] := goodOf Go.Proofs.Tryz.func61 (by kernel_rfl) (by kernel_rfl) md ha h
theorem rat_plus {args : List V} {r : V} (h : ∀ C C2, CC C → CC2 C2 → wpF Ω ⟨tt, C, C2, md, 0, ro, ty, la, ne, bw⟩ B.rat_plus args (fun x => x = r)) (ha : args.length ≤ (B.rat_plus).ntmps := by exact of_decide_eq_true rfl) : Good P F.rat_plus args [] r [] := goodOf Go.Proofs.Tryz.func65 (by kernel_rfl) (by kernel_rfl) md ha h
theorem nat_Cmp {args : List V} {r : V} (h : ∀ C C2, CC C → CC2 C2 → wpF Ω ⟨tt, C, C2, md, 0, ro, ty, la, ne, bw⟩ B.nat_Cmp args (fun x => x = r)) (ha : args.length ≤ (B.nat_Cmp).ntmps := by exact of_decide_eq_true rfl) : Good P F.nat_Cmp args [] r [] := goodOf Go.Proofs.Tryz.func66 (by kernel_rfl) (by kernel_rfl) md ha h
theorem nat_Mul {args : List V} {r : V} (h : ∀ C C2, CC C → CC2 C2 → wpF Ω ⟨tt, C, C2, md, 0, ro, ty, la, ne, bw⟩ B.nat_Mul args (fun x => x = r)) (ha : args.length ≤ (B.nat_Mul).ntmps := by exact of_decide_eq_true rfl) : Good P F.nat_Mul args [] r [] := goodOf Go.Proofs.Tryz.func67 (by kernel_rfl) (by kernel_rfl) md ha h
theorem penumbraref01_Same {args : List V} {r : V} (h : ∀ C C2, CC C → CC2 C2 → wpF Ω ⟨tt, C, C2, md, 0, ro, ty, la, ne, bw⟩ B.penumbraref01_Same args (fun x => x = r)) (ha : args.length ≤ (B.penumbraref01_Same).ntmps := by exact of_decide_eq_true rfl) : Good P F.penumbraref01_Same args [] r [] := goodOf Go.Proofs.Tryz.func68 (by kernel_rfl) (by kernel_rfl) md ha h
theorem strings_CutSuffix {args : List V} {r : V} (h : ∀ C C2, CC C → CC2 C2 → wpF Ω ⟨tt, C, C2, md, 0, ro, ty, la, ne, bw⟩ B.strings_CutSuffix args (fun x => x = r)) (ha : args.length ≤ (B.strings_CutSuffix).ntmps := by exact of_decide_eq_true rfl) : Good P F.strings_CutSuffix args [] r [] := goodOf Go.Proofs.Tryz.func69 (by kernel_rfl) (by kernel_rfl) md ha h
theorem strings_Split {args : List V} {r : V} (h : ∀ C C2, CC C → CC2 C2 → wpF Ω ⟨tt, C, C2, md, 0, ro, ty, la, ne, bw⟩ B.strings_Split args (fun x => x = r)) (ha : args.length ≤ (B.strings_Split).ntmps := by exact of_decide_eq_true rfl) : Good P F.strings_Split args [] r [] := goodOf Go.Proofs.Tryz.func70 (by kernel_rfl) (by kernel_rfl) md ha h
theorem film_head {args : List V} {r : V} (h : ∀ C C2, CC C → CC2 C2 → wpF Ω ⟨tt, C, C2, md, 0, ro, ty, la, ne, bw⟩ B.film_head args (fun x => x = r)) (ha : args.length ≤ (B.film_head).ntmps := by exact of_decide_eq_true rfl) : Good P F.film_head args [] r [] := goodOf Go.Proofs.Tryz.func71 (by kernel_rfl) (by kernel_rfl) md ha h
theorem decimal_Parse {args : List V} {r : V} (h : ∀ C C2, CC C → CC2 C2 → wpF Ω ⟨tt, C, C2, md, 0, ro, ty, la, ne, bw⟩ B.decimal_Parse args (fun x => x = r)) (ha : args.length ≤ (B.decimal_Parse).ntmps := by exact of_decide_eq_true rfl) : Good P F.decimal_Parse args [] r [] := goodOf Go.Proofs.Tryz.func72 (by kernel_rfl) (by kernel_rfl) md ha h
theorem P_strings_Builder_copyCheck {args : List V} {bs bs' : List Blk} {r : V} (h : ∀ C C2, CC C → CC2 C2 → wpF2 Ω ⟨tt, C, C2, md, bs.length, ro, ty, la, ne, bw⟩ B.P_strings_Builder_copyCheck args bs (fun x b => x = r ∧ b = bs')) (hb : bs.length ≤ 1000 := by decide) (ha : args.length ≤ (B.P_strings_Builder_copyCheck).ntmps := by exact of_decide_eq_true rfl) : Good P F.P_strings_Builder_copyCheck args bs r bs' := goodOf2 Go.Proofs.Tryz.func73 (by kernel_rfl) (by kernel_rfl) md hb ha h
theorem internal_strconv_Itoa {args : List V} {r : V} (h : ∀ C C2, CC C → CC2 C2 → wpF Ω ⟨tt, C, C2, md, 0, ro, ty, la, ne, bw⟩ B.internal_strconv_Itoa args (fun x => x = r)) (ha : args.length ≤ (B.internal_strconv_Itoa).ntmps := by exact of_decide_eq_true rfl) : Good P F.internal_strconv_Itoa args [] r [] := goodOf Go.Proofs.Tryz.func74 (by kernel_rfl) (by kernel_rfl) md ha h
theorem decimal_Natural {args : List V} {r : V} (h : ∀ C C2, CC C → CC2 C2 → wpF Ω ⟨tt, C, C2, md, 0, ro, ty, la, ne, bw⟩ B.decimal_Natural args (fun x => x = r)) (ha : args.length ≤ (B.decimal_Natural).ntmps := by exact of_decide_eq_true rfl) : Good P F.decimal_Natural args [] r [] := goodOf Go.Proofs.Tryz.func75 (by kernel_rfl) (by kernel_rfl) md ha h
theorem rat_Floor {args : List V} {r : V} (h : ∀ C C2, CC C → CC2 C2 → wpF Ω ⟨tt, C, C2, md, 0, ro, ty, la, ne, bw⟩ B.rat_Floor args (fun x => x = r)) (ha : args.length ≤ (B.rat_Floor).ntmps := by exact of_decide_eq_true rfl) : Good P F.rat_Floor args [] r [] := goodOf Go.Proofs.Tryz.func78 (by kernel_rfl) (by kernel_rfl) md ha h
theorem lists_Each_api_Rat_api_Rat {args : List V} {bs bs' : List Blk} {r : V} (h : ∀ C C2, CC C → CC2 C2 → wpF2 Ω ⟨tt, C, C2, md, bs.length, ro, ty, la, ne, bw⟩ B.lists_Each_api_Rat_api_Rat args bs (fun x b => x = r ∧ b = bs')) (hb : bs.length ≤ 1000 := by decide) (ha : args.length ≤ (B.lists_Each_api_Rat_api_Rat).ntmps := by exact of_decide_eq_true rfl) : Good P F.lists_Each_api_Rat_api_Rat args bs r bs' := goodOf2 Go.Proofs.Tryz.func80 (by kernel_rfl) (by kernel_rfl) md hb ha h
theorem slices_Equal_L_uint32_uint32 {args : List V} {r : V} (h : ∀ C C2, CC C → CC2 C2 → wpF Ω ⟨tt, C, C2, md, 0, ro, ty, la, ne, bw⟩ B.slices_Equal_L_uint32_uint32 args (fun x => x = r)) (ha : args.length ≤ (B.slices_Equal_L_uint32_uint32).ntmps := by exact of_decide_eq_true rfl) : Good P F.slices_Equal_L_uint32_uint32 args [] r [] := goodOf Go.Proofs.Tryz.func88 (by kernel_rfl) (by kernel_rfl) md ha h
theorem slices_IndexFunc_L_api_Rat_api_Rat {args : List V} {bs bs' : List Blk} {r : V} (h : ∀ C C2, CC C → CC2 C2 → wpF2 Ω ⟨tt, C, C2, md, bs.length, ro, ty, la, ne, bw⟩ B.slices_IndexFunc_L_api_Rat_api_Rat args bs (fun x b => x = r ∧ b = bs')) (hb : bs.length ≤ 1000 := by decide) (ha : args.length ≤ (B.slices_IndexFunc_L_api_Rat_api_Rat).ntmps := by exact of_decide_eq_true rfl) : Good P F.slices_IndexFunc_L_api_Rat_api_Rat args bs r bs' := goodOf2 Go.Proofs.Tryz.func89 (by kernel_rfl) (by kernel_rfl) md hb ha h
theorem nat_trim {args : List V} {r : V} (h : ∀ C C2, CC C → CC2 C2 → wpF Ω ⟨tt, C, C2, md, 0, ro, ty, la, ne, bw⟩ B.nat_trim args (fun x => x = r)) (ha : args.length ≤ (B.nat_trim).ntmps := by exact of_decide_eq_true rfl) : Good P F.nat_trim args [] r [] := goodOf Go.Proofs.Tryz.func90 (by kernel_rfl) (by kernel_rfl) md ha h
theorem math_bits_LeadingZeros32 {args : List V} {r : V} (h : ∀ C C2, CC C → CC2 C2 → wpF Ω ⟨tt, C, C2, md, 0, ro, ty, la, ne, bw⟩ B.math_bits_LeadingZeros32 args (fun x => x = r)) (ha : args.length ≤ (B.math_bits_LeadingZeros32).ntmps := by exact of_decide_eq_true rfl) : Good P F.math_bits_LeadingZeros32 args [] r [] := goodOf Go.Proofs.Tryz.func91 (by kernel_rfl) (by kernel_rfl) md ha h
theorem nat_Norm {args : List V} {r : V} (h : ∀ C C2, CC C → CC2 C2 → wpF Ω ⟨tt, C, C2, md, 0, ro, ty, la, ne, bw⟩ B.nat_Norm args (fun x => x = r)) (ha : args.length ≤ (B.nat_Norm).ntmps := by exact of_decide_eq_true rfl) : Good P F.nat_Norm args [] r [] := goodOf Go.Proofs.Tryz.func92 (by kernel_rfl) (by kernel_rfl) md ha h
theorem root_Gcd {args : List V} {r : V} (h : ∀ C C2, CC C → CC2 C2 → wpF Ω ⟨tt, C, C2, md, 0, ro, ty, la, ne, bw⟩ B.root_Gcd args (fun x => x = r)) (ha : args.length ≤ (B.root_Gcd).ntmps := by exact of_decide_eq_true rfl) : Good P F.root_Gcd args [] r [] := goodOf Go.Proofs.Tryz.func93 (by kernel_rfl) (by kernel_rfl) md ha h
theorem nat_DivMod {args : List V} {r : V} (h : ∀ C C2, CC C → CC2 C2 → wpF Ω ⟨tt, C, C2, md, 0, ro, ty, la, ne, bw⟩ B.nat_DivMod args (fun x => x = r)) (ha : args.length ≤ (B.nat_DivMod).ntmps := by exact of_decide_eq_true rfl) : Good P F.nat_DivMod args [] r [] := goodOf Go.Proofs.Tryz.func94 (by kernel_rfl) (by kernel_rfl) md ha h
theorem nat_Of {args : List V} {r : V} (h : ∀ C C2, CC C → CC2 C2 → wpF Ω ⟨tt, C, C2, md, 0, ro, ty, la, ne, bw⟩ B.nat_Of args (fun x => x = r)) (ha : args.length ≤ (B.nat_Of).ntmps := by exact of_decide_eq_true rfl) : Good P F.nat_Of args [] r [] := goodOf Go.Proofs.Tryz.func95 (by kernel_rfl) (by kernel_rfl) md ha h
theorem rat_whole {args : List V} {r : V} (h : ∀ C C2, CC C → CC2 C2 → wpF Ω ⟨tt, C, C2, md, 0, ro, ty, la, ne, bw⟩ B.rat_whole args (fun x => x = r)) (ha : args.length ≤ (B.rat_whole).ntmps := by exact of_decide_eq_true rfl) : Good P F.rat_whole args [] r [] := goodOf Go.Proofs.Tryz.func97 (by kernel_rfl) (by kernel_rfl) md ha h
theorem nat_Add {args : List V} {r : V} (h : ∀ C C2, CC C → CC2 C2 → wpF Ω ⟨tt, C, C2, md, 0, ro, ty, la, ne, bw⟩ B.nat_Add args (fun x => x = r)) (ha : args.length ≤ (B.nat_Add).ntmps := by exact of_decide_eq_true rfl) : Good P F.nat_Add args [] r [] := goodOf Go.Proofs.Tryz.func98 (by kernel_rfl) (by kernel_rfl) md ha h
theorem nat_Sub {args : List V} {r : V} (h : ∀ C C2, CC C → CC2 C2 → wpF Ω ⟨tt, C, C2, md, 0, ro, ty, la, ne, bw⟩ B.nat_Sub args (fun x => x = r)) (ha : args.length ≤ (B.nat_Sub).ntmps := by exact of_decide_eq_true rfl) : Good P F.nat_Sub args [] r [] := goodOf Go.Proofs.Tryz.func99 (by kernel_rfl) (by kernel_rfl) md ha h
theorem internal_stringslite_CutSuffix {args : List V} {r : V} (h : ∀ C C2, CC C → CC2 C2 → wpF Ω ⟨tt, C, C2, md, 0, ro, ty, la, ne, bw⟩ B.internal_stringslite_CutSuffix args (fun x => x = r)) (ha : args.length ≤ (B.internal_stringslite_CutSuffix).ntmps := by exact of_decide_eq_true rfl) : Good P F.internal_stringslite_CutSuffix args [] r [] := goodOf Go.Proofs.Tryz.func100 (by kernel_rfl) (by kernel_rfl) md ha h
theorem strings_genSplit {args : List V} {r : V} (h : ∀ C C2, CC C → CC2 C2 → wpF Ω ⟨tt, C, C2, md, 0, ro, ty, la, ne, bw⟩ B.strings_genSplit args (fun x => x = r)) (ha : args.length ≤ (B.strings_genSplit).ntmps := by exact of_decide_eq_true rfl) : Good P F.strings_genSplit args [] r [] := goodOf Go.Proofs.Tryz.func101 (by kernel_rfl) (by kernel_rfl) md ha h
theorem film_whole {args : List V} {r : V} (h : ∀ C C2, CC C → CC2 C2 → wpF Ω ⟨tt, C, C2, md, 0, ro, ty, la, ne, bw⟩ B.film_whole args (fun x => x = r)) (ha : args.length ≤ (B.film_whole).ntmps := by exact of_decide_eq_true rfl) : Good P F.film_whole args [] r [] := goodOf Go.Proofs.Tryz.func102 (by kernel_rfl) (by kernel_rfl) md ha h
theorem strings_CutPrefix {args : List V} {r : V} (h : ∀ C C2, CC C → CC2 C2 → wpF Ω ⟨tt, C, C2, md, 0, ro, ty, la, ne, bw⟩ B.strings_CutPrefix args (fun x => x = r)) (ha : args.length ≤ (B.strings_CutPrefix).ntmps := by exact of_decide_eq_true rfl) : Good P F.strings_CutPrefix args [] r [] := goodOf Go.Proofs.Tryz.func103 (by kernel_rfl) (by kernel_rfl) md ha h
theorem decimal_digits {args : List V} {r : V} (h : ∀ C C2, CC C → CC2 C2 → wpF Ω ⟨tt, C, C2, md, 0, ro, ty, la, ne, bw⟩ B.decimal_digits args (fun x => x = r)) (ha : args.length ≤ (B.decimal_digits).ntmps := by exact of_decide_eq_true rfl) : Good P F.decimal_digits args [] r [] := goodOf Go.Proofs.Tryz.func104 (by kernel_rfl) (by kernel_rfl) md ha h
theorem decimal_number {args : List V} {r : V} (h : ∀ C C2, CC C → CC2 C2 → wpF Ω ⟨tt, C, C2, md, 0, ro, ty, la, ne, bw⟩ B.decimal_number args (fun x => x = r)) (ha : args.length ≤ (B.decimal_number).ntmps := by exact of_decide_eq_true rfl) : Good P F.decimal_number args [] r [] := goodOf Go.Proofs.Tryz.func106 (by kernel_rfl) (by kernel_rfl) md ha h
theorem internal_strconv_FormatInt {args : List V} {r : V} (h : ∀ C C2, CC C → CC2 C2 → wpF Ω ⟨tt, C, C2, md, 0, ro, ty, la, ne, bw⟩ B.internal_strconv_FormatInt args (fun x => x = r)) (ha : args.length ≤ (B.internal_strconv_FormatInt).ntmps := by exact of_decide_eq_true rfl) : Good P F.internal_strconv_FormatInt args [] r [] := goodOf Go.Proofs.Tryz.func108 (by kernel_rfl) (by kernel_rfl) md ha h
theorem slices_Backward_L_string_string {args : List V} {bs bs' : List Blk} {r : V} (h : ∀ C C2, CC C → CC2 C2 → wpF2 Ω ⟨tt, C, C2, md, bs.length, ro, ty, la, ne, bw⟩ B.slices_Backward_L_string_string args bs (fun x b => x = r ∧ b = bs')) (hb : bs.length ≤ 1000 := by decide) (ha : args.length ≤ (B.slices_Backward_L_string_string).ntmps := by exact of_decide_eq_true rfl) : Good P F.slices_Backward_L_string_string args bs r bs' := goodOf2 Go.Proofs.Tryz.func109 (by kernel_rfl) (by kernel_rfl) md hb ha h
theorem strings_TrimLeft {args : List V} {r : V} (h : ∀ C C2, CC C → CC2 C2 → wpF Ω ⟨tt, C, C2, md, 0, ro, ty, la, ne, bw⟩ B.strings_TrimLeft args (fun x => x = r)) (ha : args.length ≤ (B.strings_TrimLeft).ntmps := by exact of_decide_eq_true rfl) : Good P F.strings_TrimLeft args [] r [] := goodOf Go.Proofs.Tryz.func110 (by kernel_rfl) (by kernel_rfl) md ha h
theorem math_bits_Len32 {args : List V} {r : V} (h : ∀ C C2, CC C → CC2 C2 → wpF Ω ⟨tt, C, C2, md, 0, ro, ty, la, ne, bw⟩ B.math_bits_Len32 args (fun x => x = r)) (ha : args.length ≤ (B.math_bits_Len32).ntmps := by exact of_decide_eq_true rfl) : Good P F.math_bits_Len32 args [] r [] := goodOf Go.Proofs.Tryz.func117 (by kernel_rfl) (by kernel_rfl) md ha h
theorem slices_Clone_L_uint32_uint32 {args : List V} {r : V} (h : ∀ C C2, CC C → CC2 C2 → wpF Ω ⟨tt, C, C2, md, 0, ro, ty, la, ne, bw⟩ B.slices_Clone_L_uint32_uint32 args (fun x => x = r)) (ha : args.length ≤ (B.slices_Clone_L_uint32_uint32).ntmps := by exact of_decide_eq_true rfl) : Good P F.slices_Clone_L_uint32_uint32 args [] r [] := goodOf Go.Proofs.Tryz.func118 (by kernel_rfl) (by kernel_rfl) md ha h
theorem nat_small {args : List V} {r : V} (h : ∀ C C2, CC C → CC2 C2 → wpF Ω ⟨tt, C, C2, md, 0, ro, ty, la, ne, bw⟩ B.nat_small args (fun x => x = r)) (ha : args.length ≤ (B.nat_small).ntmps := by exact of_decide_eq_true rfl) : Good P F.nat_small args [] r [] := goodOf Go.Proofs.Tryz.func119 (by kernel_rfl) (by kernel_rfl) md ha h
theorem nat_long {args : List V} {r : V} (h : ∀ C C2, CC C → CC2 C2 → wpF Ω ⟨tt, C, C2, md, 0, ro, ty, la, ne, bw⟩ B.nat_long args (fun x => x = r)) (ha : args.length ≤ (B.nat_long).ntmps := by exact of_decide_eq_true rfl) : Good P F.nat_long args [] r [] := goodOf Go.Proofs.Tryz.func120 (by kernel_rfl) (by kernel_rfl) md ha h
theorem math_bits_Add32 {args : List V} {r : V} (h : ∀ C C2, CC C → CC2 C2 → wpF Ω ⟨tt, C, C2, md, 0, ro, ty, la, ne, bw⟩ B.math_bits_Add32 args (fun x => x = r)) (ha : args.length ≤ (B.math_bits_Add32).ntmps := by exact of_decide_eq_true rfl) : Good P F.math_bits_Add32 args [] r [] := goodOf Go.Proofs.Tryz.func122 (by kernel_rfl) (by kernel_rfl) md ha h
theorem math_bits_Sub32 {args : List V} {r : V} (h : ∀ C C2, CC C → CC2 C2 → wpF Ω ⟨tt, C, C2, md, 0, ro, ty, la, ne, bw⟩ B.math_bits_Sub32 args (fun x => x = r)) (ha : args.length ≤ (B.math_bits_Sub32).ntmps := by exact of_decide_eq_true rfl) : Good P F.math_bits_Sub32 args [] r [] := goodOf Go.Proofs.Tryz.func123 (by kernel_rfl) (by kernel_rfl) md ha h
theorem internal_stringslite_HasSuffix {args : List V} {r : V} (h : ∀ C C2, CC C → CC2 C2 → wpF Ω ⟨tt, C, C2, md, 0, ro, ty, la, ne, bw⟩ B.internal_stringslite_HasSuffix args (fun x => x = r)) (ha : args.length ≤ (B.internal_stringslite_HasSuffix).ntmps := by exact of_decide_eq_true rfl) : Good P F.internal_stringslite_HasSuffix args [] r [] := goodOf Go.Proofs.Tryz.func124 (by kernel_rfl) (by kernel_rfl) md ha h
theorem strings_Count {args : List V} {r : V} (h : ∀ C C2, CC C → CC2 C2 → wpF Ω ⟨tt, C, C2, md, 0, ro, ty, la, ne, bw⟩ B.strings_Count args (fun x => x = r)) (ha : args.length ≤ (B.strings_Count).ntmps := by exact of_decide_eq_true rfl) : Good P F.strings_Count args [] r [] := goodOf Go.Proofs.Tryz.func126 (by kernel_rfl) (by kernel_rfl) md ha h
theorem strings_Index {args : List V} {r : V} (h : ∀ C C2, CC C → CC2 C2 → wpF Ω ⟨tt, C, C2, md, 0, ro, ty, la, ne, bw⟩ B.strings_Index args (fun x => x = r)) (ha : args.length ≤ (B.strings_Index).ntmps := by exact of_decide_eq_true rfl) : Good P F.strings_Index args [] r [] := goodOf Go.Proofs.Tryz.func127 (by kernel_rfl) (by kernel_rfl) md ha h
theorem internal_stringslite_CutPrefix {args : List V} {r : V} (h : ∀ C C2, CC C → CC2 C2 → wpF Ω ⟨tt, C, C2, md, 0, ro, ty, la, ne, bw⟩ B.internal_stringslite_CutPrefix args (fun x => x = r)) (ha : args.length ≤ (B.internal_stringslite_CutPrefix).ntmps := by exact of_decide_eq_true rfl) : Good P F.internal_stringslite_CutPrefix args [] r [] := goodOf Go.Proofs.Tryz.func128 (by kernel_rfl) (by kernel_rfl) md ha h
theorem internal_strconv_small {args : List V} {r : V} (h : ∀ C C2, CC C → CC2 C2 → wpF Ω ⟨tt, C, C2, md, 0, ro, ty, la, ne, bw⟩ B.internal_strconv_small args (fun x => x = r)) (ha : args.length ≤ (B.internal_strconv_small).ntmps := by exact of_decide_eq_true rfl) : Good P F.internal_strconv_small args [] r [] := goodOf Go.Proofs.Tryz.func133 (by kernel_rfl) (by kernel_rfl) md ha h
theorem slices_Backward_L_string_string_1 {args : List V} {r : V} (h : ∀ C C2, CC C → CC2 C2 → wpF Ω ⟨tt, C, C2, md, 0, ro, ty, la, ne, bw⟩ B.slices_Backward_L_string_string_1 args (fun x => x = r)) (ha : args.length ≤ (B.slices_Backward_L_string_string_1).ntmps := by exact of_decide_eq_true rfl) : Good P F.slices_Backward_L_string_string_1 args [] r [] := goodOf Go.Proofs.Tryz.func137 (by kernel_rfl) (by kernel_rfl) md ha h
theorem strings_trimLeftByte {args : List V} {r : V} (h : ∀ C C2, CC C → CC2 C2 → wpF Ω ⟨tt, C, C2, md, 0, ro, ty, la, ne, bw⟩ B.strings_trimLeftByte args (fun x => x = r)) (ha : args.length ≤ (B.strings_trimLeftByte).ntmps := by exact of_decide_eq_true rfl) : Good P F.strings_trimLeftByte args [] r [] := goodOf Go.Proofs.Tryz.func138 (by kernel_rfl) (by kernel_rfl) md ha h
theorem strings_makeASCIISet {args : List V} {r : V} (h : ∀ C C2, CC C → CC2 C2 → wpF Ω ⟨tt, C, C2, md, 0, ro, ty, la, ne, bw⟩ B.strings_makeASCIISet args (fun x => x = r)) (ha : args.length ≤ (B.strings_makeASCIISet).ntmps := by exact of_decide_eq_true rfl) : Good P F.strings_makeASCIISet args [] r [] := goodOf Go.Proofs.Tryz.func139 (by kernel_rfl) (by kernel_rfl) md ha h
theorem strings_trimLeftASCII {args : List V} {bs bs' : List Blk} {r : V} (h : ∀ C C2, CC C → CC2 C2 → wpF2 Ω ⟨tt, C, C2, md, bs.length, ro, ty, la, ne, bw⟩ B.strings_trimLeftASCII args bs (fun x b => x = r ∧ b = bs')) (hb : bs.length ≤ 1000 := by decide) (ha : args.length ≤ (B.strings_trimLeftASCII).ntmps := by exact of_decide_eq_true rfl) : Good P F.strings_trimLeftASCII args bs r bs' := goodOf2 Go.Proofs.Tryz.func140 (by kernel_rfl) (by kernel_rfl) md hb ha h
theorem math_bits_Div32 {args : List V} {r : V} (h : ∀ C C2, CC C → CC2 C2 → wpF Ω ⟨tt, C, C2, md, 0, ro, ty, la, ne, bw⟩ B.math_bits_Div32 args (fun x => x = r)) (ha : args.length ≤ (B.math_bits_Div32).ntmps := by exact of_decide_eq_true rfl) : Good P F.math_bits_Div32 args [] r [] := goodOf Go.Proofs.Tryz.func143 (by kernel_rfl) (by kernel_rfl) md ha h
theorem nat_Shl {args : List V} {r : V} (h : ∀ C C2, CC C → CC2 C2 → wpF Ω ⟨tt, C, C2, md, 0, ro, ty, la, ne, bw⟩ B.nat_Shl args (fun x => x = r)) (ha : args.length ≤ (B.nat_Shl).ntmps := by exact of_decide_eq_true rfl) : Good P F.nat_Shl args [] r [] := goodOf Go.Proofs.Tryz.func144 (by kernel_rfl) (by kernel_rfl) md ha h
theorem nat_less {args : List V} {bs bs' : List Blk} {r : V} (h : ∀ C C2, CC C → CC2 C2 → wpF2 Ω ⟨tt, C, C2, md, bs.length, ro, ty, la, ne, bw⟩ B.nat_less args bs (fun x b => x = r ∧ b = bs')) (hb : bs.length ≤ 1000 := by decide) (ha : args.length ≤ (B.nat_less).ntmps := by exact of_decide_eq_true rfl) : Good P F.nat_less args bs r bs' := goodOf2 Go.Proofs.Tryz.func145 (by kernel_rfl) (by kernel_rfl) md hb ha h
theorem nat_back {args : List V} {bs bs' : List Blk} {r : V} (h : ∀ C C2, CC C → CC2 C2 → wpF2 Ω ⟨tt, C, C2, md, bs.length, ro, ty, la, ne, bw⟩ B.nat_back args bs (fun x b => x = r ∧ b = bs')) (hb : bs.length ≤ 1000 := by decide) (ha : args.length ≤ (B.nat_back).ntmps := by exact of_decide_eq_true rfl) : Good P F.nat_back args bs r bs' := goodOf2 Go.Proofs.Tryz.func146 (by kernel_rfl) (by kernel_rfl) md hb ha h
theorem nat_shr {args : List V} {r : V} (h : ∀ C C2, CC C → CC2 C2 → wpF Ω ⟨tt, C, C2, md, 0, ro, ty, la, ne, bw⟩ B.nat_shr args (fun x => x = r)) (ha : args.length ≤ (B.nat_shr).ntmps := by exact of_decide_eq_true rfl) : Good P F.nat_shr args [] r [] := goodOf Go.Proofs.Tryz.func147 (by kernel_rfl) (by kernel_rfl) md ha h
theorem internal_stringslite_Index {args : List V} {r : V} (h : ∀ C C2, CC C → CC2 C2 → wpF Ω ⟨tt, C, C2, md, 0, ro, ty, la, ne, bw⟩ B.internal_stringslite_Index args (fun x => x = r)) (ha : args.length ≤ (B.internal_stringslite_Index).ntmps := by exact of_decide_eq_true rfl) : Good P F.internal_stringslite_Index args [] r [] := goodOf Go.Proofs.Tryz.func151 (by kernel_rfl) (by kernel_rfl) md ha h
theorem internal_stringslite_HasPrefix {args : List V} {r : V} (h : ∀ C C2, CC C → CC2 C2 → wpF Ω ⟨tt, C, C2, md, 0, ro, ty, la, ne, bw⟩ B.internal_stringslite_HasPrefix args (fun x => x = r)) (ha : args.length ≤ (B.internal_stringslite_HasPrefix).ntmps := by exact of_decide_eq_true rfl) : Good P F.internal_stringslite_HasPrefix args [] r [] := goodOf Go.Proofs.Tryz.func152 (by kernel_rfl) (by kernel_rfl) md ha h
theorem P_strings_asciiSet_contains {args : List V} {bs bs' : List Blk} {r : V} (h : ∀ C C2, CC C → CC2 C2 → wpF2 Ω ⟨tt, C, C2, md, bs.length, ro, ty, la, ne, bw⟩ B.P_strings_asciiSet_contains args bs (fun x b => x = r ∧ b = bs')) (hb : bs.length ≤ 1000 := by decide) (ha : args.length ≤ (B.P_strings_asciiSet_contains).ntmps := by exact of_decide_eq_true rfl) : Good P F.P_strings_asciiSet_contains args bs r bs' := goodOf2 Go.Proofs.Tryz.func161 (by kernel_rfl) (by kernel_rfl) md hb ha h
theorem internal_stringslite_IndexByte {args : List V} {r : V} (h : ∀ C C2, CC C → CC2 C2 → wpF Ω ⟨tt, C, C2, md, 0, ro, ty, la, ne, bw⟩ B.internal_stringslite_IndexByte args (fun x => x = r)) (ha : args.length ≤ (B.internal_stringslite_IndexByte).ntmps := by exact of_decide_eq_true rfl) : Good P F.internal_stringslite_IndexByte args [] r [] := goodOf Go.Proofs.Tryz.func164 (by kernel_rfl) (by kernel_rfl) md ha h
end G
theorem G2.nat_trim (md : FuncId → Bool) {args : List V} {bs bs' : List Blk} {r : V} (h : ∀ C C2, CC C → CC2 C2 → wpF2 Ω ⟨tt, C, C2, md, bs.length, ro, ty, la, ne, bw⟩ B.nat_trim args bs (fun x b => x = r ∧ b = bs')) (hb : bs.length ≤ 1000 := by decide) (ha : args.length ≤ (B.nat_trim).ntmps := by exact of_decide_eq_true rfl) : Good P F.nat_trim args bs r bs' := goodOf2 Go.Proofs.Tryz.func90 (by kernel_rfl) (by kernel_rfl) md hb ha h
theorem G1.nat_long (md : FuncId → Bool) {args : List V} {r : V} (h : ∀ C C2, CC C → CC2 C2 → wpF Ω ⟨tt, C, C2, md, 0, ro, ty, la, ne, bw⟩ B.nat_long args (fun x => x = r)) (ha : args.length ≤ (B.nat_long).ntmps := by exact of_decide_eq_true rfl) : Good P F.nat_long args [] r [] := goodOf Go.Proofs.Tryz.func120 (by kernel_rfl) (by kernel_rfl) md ha h
theorem G2.nat_Shl (md : FuncId → Bool) {args : List V} {bs bs' : List Blk} {r : V} (h : ∀ C C2, CC C → CC2 C2 → wpF2 Ω ⟨tt, C, C2, md, bs.length, ro, ty, la, ne, bw⟩ B.nat_Shl args bs (fun x b => x = r ∧ b = bs')) (hb : bs.length ≤ 1000 := by decide) (ha : args.length ≤ (B.nat_Shl).ntmps := by exact of_decide_eq_true rfl) : Good P F.nat_Shl args bs r bs' := goodOf2 Go.Proofs.Tryz.func144 (by kernel_rfl) (by kernel_rfl) md hb ha h
end Go.K.S
end
section
namespace Go.K
open Go
theorem LoopG.intro {m : Nat} {body : St → (X → St → Prop) → Prop} {s : St} {Q : X → St → Prop} {σ : Type} (ks ids : List Nat) (vs : σ → List V) (bs : σ → List Blk) (I : σ → Prop) (μ : σ → Nat) (x0 : σ) (olds : List Nat)
  (h0 : I x0) (hk : kept m ks ids olds s fun a b => a = vs x0 ∧ b = bs x0) (hr : ∀ x, I x → body (stOf ks (vs x) ids (bs x)) fun e s' => match e with
    | .normal => ∃ y olds, I y ∧ μ y < μ x ∧ kept m ks ids olds s' fun a b => a = vs y ∧ b = bs y
    | e => Q e s') : LoopG m body s Q := ⟨σ, ks, fun _ => ids, vs, bs, I, μ, ⟨[], x0, olds, h0, hk⟩, hr⟩
theorem LoopG.introB {m : Nat} {body : St → (X → St → Prop) → Prop} {s : St} {Q : X → St → Prop} {σ : Type} (bl : List Bth) (ks ids : List Nat) (vs : σ → List V) (bs : σ → List Blk) (I : σ → Prop) (μ : σ → Nat) (x0 : σ) (olds : List Nat)
  (h0 : I x0) (hk : keptB bl m ks ids olds s fun a b => a = vs x0 ∧ b = bs x0) (hr : ∀ x, I x → body (stOf ks (vs x) ids (bs x)) fun e s' => match e with
    | .normal => ∃ y olds, I y ∧ μ y < μ x ∧ kept m ks ids olds s' fun a b => a = vs y ∧ b = bs y
    | e => Q e s') : LoopG m body s Q := ⟨σ, ks, fun _ => ids, vs, bs, I, μ, ⟨bl, x0, olds, h0, hk⟩, hr⟩
end Go.K
end
