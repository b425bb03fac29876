/-
  Parts of the proof, joined by a program of this work: KSeat, KSpec, KNat, KTrim, KBits.
-/
import Derived.Test.YtjoimiljaljgcaaGreatProg
import Derived.Test.YtjoimiljaljgcaaGreatMbe
import Derived.KernelRfl
import Derived.Test.YtjoimiljaljgcaaGreatMba
set_option linter.unusedSimpArgs false
set_option linter.unusedVariables false
set_option maxHeartbeats 1000000
set_option maxRecDepth 100000
section
open Go
namespace Go.K.S
noncomputable abbrev P : Program := Go.Proofs.Tryz.prog
def tt : TypeId → Option TInfo
 | 2 => some ⟨1, 8, some (.int .i64 (0)), .int .i64⟩
 | 3 => some ⟨1, 8, some (.int .i64 (0)), .int .i64⟩
 | 4 => some ⟨1, 1, some (.bool false), .bool⟩
 | 5 => some ⟨1, 1, some (.int .u8 (0)), .int .u8⟩
 | 9 => some ⟨1, 16, some (.string ⟨#[]⟩), .string⟩
 | 12 => some ⟨1, 8, some (.int .u64 (0)), .int .u64⟩
 | 21 => some ⟨1, 4, some (.int .i32 (0)), .int .i32⟩
 | 22 => some ⟨1, 24, some (.slice none 0 0), .slice 27⟩
 | 23 => some ⟨1, 24, some (.slice none 0 0), .slice 51⟩
 | 24 => some ⟨1, 24, some (.slice none 0 0), .slice 60⟩
 | 25 => some ⟨1, 24, some (.slice none 0 0), .slice 107⟩
 | 26 => some ⟨3, 56, some (.agg #[.bool false, .slice none 0 0, .slice none 0 0]), .struct #[⟨"Neg", 4, 0, false, "", "", 0⟩, ⟨"Num", 25, 1, false, "", "", 8⟩, ⟨"Den", 25, 2, false, "", "", 32⟩]⟩
 | 27 => some ⟨3, 56, some (.agg #[.bool false, .slice none 0 0, .slice none 0 0]), .struct #[⟨"Neg", 4, 0, false, "", "", 0⟩, ⟨"Num", 25, 1, false, "", "", 8⟩, ⟨"Den", 25, 2, false, "", "", 32⟩]⟩
 | 28 => some ⟨9, 168, some (.agg #[.bool false, .slice none 0 0, .slice none 0 0, .bool false, .slice none 0 0, .slice none 0 0, .bool false, .slice none 0 0, .slice none 0 0]), .struct #[⟨"X", 27, 0, false, "", "", 0⟩, ⟨"Y", 27, 3, false, "", "", 56⟩, ⟨"Z", 27, 6, false, "", "", 112⟩]⟩
 | 29 => some ⟨9, 168, some (.agg #[.bool false, .slice none 0 0, .slice none 0 0, .bool false, .slice none 0 0, .slice none 0 0, .bool false, .slice none 0 0, .slice none 0 0]), .struct #[⟨"X", 27, 0, false, "", "", 0⟩, ⟨"Y", 27, 3, false, "", "", 56⟩, ⟨"Z", 27, 6, false, "", "", 112⟩]⟩
 | 30 => some ⟨23, 408, some (.agg #[.bool false, .slice none 0 0, .slice none 0 0, .bool false, .slice none 0 0, .slice none 0 0, .bool false, .slice none 0 0, .slice none 0 0, .bool false, .slice none 0 0, .slice none 0 0, .bool false, .slice none 0 0, .slice none 0 0, .bool false, .slice none 0 0, .slice none 0 0, .int .i64 (0), .int .i64 (0), .bool false, .slice none 0 0, .slice none 0 0]), .struct #[⟨"Eye", 29, 0, false, "", "", 0⟩, ⟨"Look", 29, 9, false, "", "", 168⟩, ⟨"W", 3, 18, false, "", "", 336⟩, ⟨"H", 3, 19, false, "", "", 344⟩, ⟨"Half", 27, 20, false, "", "", 352⟩]⟩
 | 31 => some ⟨23, 408, some (.agg #[.bool false, .slice none 0 0, .slice none 0 0, .bool false, .slice none 0 0, .slice none 0 0, .bool false, .slice none 0 0, .slice none 0 0, .bool false, .slice none 0 0, .slice none 0 0, .bool false, .slice none 0 0, .slice none 0 0, .bool false, .slice none 0 0, .slice none 0 0, .int .i64 (0), .int .i64 (0), .bool false, .slice none 0 0, .slice none 0 0]), .struct #[⟨"Eye", 29, 0, false, "", "", 0⟩, ⟨"Look", 29, 9, false, "", "", 168⟩, ⟨"W", 3, 18, false, "", "", 336⟩, ⟨"H", 3, 19, false, "", "", 344⟩, ⟨"Half", 27, 20, false, "", "", 352⟩]⟩
 | 32 => some ⟨26, 480, some (.agg #[.slice none 0 0, .slice none 0 0, .slice none 0 0, .bool false, .slice none 0 0, .slice none 0 0, .bool false, .slice none 0 0, .slice none 0 0, .bool false, .slice none 0 0, .slice none 0 0, .bool false, .slice none 0 0, .slice none 0 0, .bool false, .slice none 0 0, .slice none 0 0, .bool false, .slice none 0 0, .slice none 0 0, .int .i64 (0), .int .i64 (0), .bool false, .slice none 0 0, .slice none 0 0]), .struct #[⟨"Waves", 22, 0, false, "", "", 0⟩, ⟨"Mats", 23, 1, false, "", "", 24⟩, ⟨"Faces", 24, 2, false, "", "", 48⟩, ⟨"Camera", 31, 3, true, "", "", 72⟩]⟩
 | 33 => some ⟨26, 480, some (.agg #[.slice none 0 0, .slice none 0 0, .slice none 0 0, .bool false, .slice none 0 0, .slice none 0 0, .bool false, .slice none 0 0, .slice none 0 0, .bool false, .slice none 0 0, .slice none 0 0, .bool false, .slice none 0 0, .slice none 0 0, .bool false, .slice none 0 0, .slice none 0 0, .bool false, .slice none 0 0, .slice none 0 0, .int .i64 (0), .int .i64 (0), .bool false, .slice none 0 0, .slice none 0 0]), .struct #[⟨"Waves", 22, 0, false, "", "", 0⟩, ⟨"Mats", 23, 1, false, "", "", 24⟩, ⟨"Faces", 24, 2, false, "", "", 48⟩, ⟨"Camera", 31, 3, true, "", "", 72⟩]⟩
 | 34 => some ⟨18, 336, some (.agg #[.bool false, .slice none 0 0, .slice none 0 0, .bool false, .slice none 0 0, .slice none 0 0, .bool false, .slice none 0 0, .slice none 0 0, .bool false, .slice none 0 0, .slice none 0 0, .bool false, .slice none 0 0, .slice none 0 0, .bool false, .slice none 0 0, .slice none 0 0]), .array 2 29⟩
 | 35 => some ⟨1, 24, some (.slice none 0 0), .slice 3⟩
 | 36 => some ⟨36, 672, some (.agg #[.bool false, .slice none 0 0, .slice none 0 0, .bool false, .slice none 0 0, .slice none 0 0, .bool false, .slice none 0 0, .slice none 0 0, .bool false, .slice none 0 0, .slice none 0 0, .bool false, .slice none 0 0, .slice none 0 0, .bool false, .slice none 0 0, .slice none 0 0, .bool false, .slice none 0 0, .slice none 0 0, .bool false, .slice none 0 0, .slice none 0 0, .bool false, .slice none 0 0, .slice none 0 0, .bool false, .slice none 0 0, .slice none 0 0, .bool false, .slice none 0 0, .slice none 0 0, .bool false, .slice none 0 0, .slice none 0 0]), .struct #[⟨"X", 29, 0, false, "", "", 0⟩, ⟨"Y", 29, 9, false, "", "", 168⟩, ⟨"Z", 29, 18, false, "", "", 336⟩, ⟨"Move", 29, 27, false, "", "", 504⟩]⟩
 | 37 => some ⟨36, 672, some (.agg #[.bool false, .slice none 0 0, .slice none 0 0, .bool false, .slice none 0 0, .slice none 0 0, .bool false, .slice none 0 0, .slice none 0 0, .bool false, .slice none 0 0, .slice none 0 0, .bool false, .slice none 0 0, .slice none 0 0, .bool false, .slice none 0 0, .slice none 0 0, .bool false, .slice none 0 0, .slice none 0 0, .bool false, .slice none 0 0, .slice none 0 0, .bool false, .slice none 0 0, .slice none 0 0, .bool false, .slice none 0 0, .slice none 0 0, .bool false, .slice none 0 0, .slice none 0 0, .bool false, .slice none 0 0, .slice none 0 0]), .struct #[⟨"X", 29, 0, false, "", "", 0⟩, ⟨"Y", 29, 9, false, "", "", 168⟩, ⟨"Z", 29, 18, false, "", "", 336⟩, ⟨"Move", 29, 27, false, "", "", 504⟩]⟩
 | 38 => some ⟨59, 1096, some (.agg #[.int .i64 (0), .bool false, .slice none 0 0, .slice none 0 0, .bool false, .slice none 0 0, .slice none 0 0, .bool false, .slice none 0 0, .slice none 0 0, .bool false, .slice none 0 0, .slice none 0 0, .bool false, .slice none 0 0, .slice none 0 0, .bool false, .slice none 0 0, .slice none 0 0, .slice none 0 0, .bool false, .slice none 0 0, .slice none 0 0, .bool false, .slice none 0 0, .slice none 0 0, .bool false, .slice none 0 0, .slice none 0 0, .bool false, .slice none 0 0, .slice none 0 0, .bool false, .slice none 0 0, .slice none 0 0, .bool false, .slice none 0 0, .slice none 0 0, .bool false, .slice none 0 0, .slice none 0 0, .bool false, .slice none 0 0, .slice none 0 0, .bool false, .slice none 0 0, .slice none 0 0, .bool false, .slice none 0 0, .slice none 0 0, .bool false, .slice none 0 0, .slice none 0 0, .bool false, .slice none 0 0, .slice none 0 0, .bool false, .slice none 0 0, .slice none 0 0]), .struct #[⟨"Face", 3, 0, false, "", "", 0⟩, ⟨"P", 29, 1, false, "", "", 8⟩, ⟨"Dir", 29, 10, false, "", "", 176⟩, ⟨"Hops", 35, 19, false, "", "", 344⟩, ⟨"Map", 37, 20, true, "", "", 368⟩, ⟨"Gain", 27, 56, false, "", "", 1040⟩]⟩
 | 39 => some ⟨59, 1096, some (.agg #[.int .i64 (0), .bool false, .slice none 0 0, .slice none 0 0, .bool false, .slice none 0 0, .slice none 0 0, .bool false, .slice none 0 0, .slice none 0 0, .bool false, .slice none 0 0, .slice none 0 0, .bool false, .slice none 0 0, .slice none 0 0, .bool false, .slice none 0 0, .slice none 0 0, .slice none 0 0, .bool false, .slice none 0 0, .slice none 0 0, .bool false, .slice none 0 0, .slice none 0 0, .bool false, .slice none 0 0, .slice none 0 0, .bool false, .slice none 0 0, .slice none 0 0, .bool false, .slice none 0 0, .slice none 0 0, .bool false, .slice none 0 0, .slice none 0 0, .bool false, .slice none 0 0, .slice none 0 0, .bool false, .slice none 0 0, .slice none 0 0, .bool false, .slice none 0 0, .slice none 0 0, .bool false, .slice none 0 0, .slice none 0 0, .bool false, .slice none 0 0, .slice none 0 0, .bool false, .slice none 0 0, .slice none 0 0, .bool false, .slice none 0 0, .slice none 0 0]), .struct #[⟨"Face", 3, 0, false, "", "", 0⟩, ⟨"P", 29, 1, false, "", "", 8⟩, ⟨"Dir", 29, 10, false, "", "", 176⟩, ⟨"Hops", 35, 19, false, "", "", 344⟩, ⟨"Map", 37, 20, true, "", "", 368⟩, ⟨"Gain", 27, 56, false, "", "", 1040⟩]⟩
 | 42 => some ⟨1, 24, some (.slice none 0 0), .slice 29⟩
 | 48 => some ⟨1, 8, some (.int .i64 (0)), .int .i64⟩
 | 50 => some ⟨8, 144, some (.agg #[.int .i64 (0), .slice none 0 0, .bool false, .slice none 0 0, .slice none 0 0, .bool false, .slice none 0 0, .slice none 0 0]), .struct #[⟨"Kind", 3, 0, false, "", "", 0⟩, ⟨"Vals", 22, 1, false, "", "", 8⟩, ⟨"A", 27, 2, false, "", "", 32⟩, ⟨"B", 27, 5, false, "", "", 88⟩]⟩
 | 51 => some ⟨8, 144, some (.agg #[.int .i64 (0), .slice none 0 0, .bool false, .slice none 0 0, .slice none 0 0, .bool false, .slice none 0 0, .slice none 0 0]), .struct #[⟨"Kind", 3, 0, false, "", "", 0⟩, ⟨"Vals", 22, 1, false, "", "", 8⟩, ⟨"A", 27, 2, false, "", "", 32⟩, ⟨"B", 27, 5, false, "", "", 88⟩]⟩
 | 57 => some ⟨27, 504, some (.agg #[.bool false, .slice none 0 0, .slice none 0 0, .bool false, .slice none 0 0, .slice none 0 0, .bool false, .slice none 0 0, .slice none 0 0, .bool false, .slice none 0 0, .slice none 0 0, .bool false, .slice none 0 0, .slice none 0 0, .bool false, .slice none 0 0, .slice none 0 0, .bool false, .slice none 0 0, .slice none 0 0, .bool false, .slice none 0 0, .slice none 0 0, .bool false, .slice none 0 0, .slice none 0 0]), .struct #[⟨"A", 29, 0, false, "", "", 0⟩, ⟨"B", 29, 9, false, "", "", 168⟩, ⟨"C", 29, 18, false, "", "", 336⟩]⟩
 | 58 => some ⟨27, 504, some (.agg #[.bool false, .slice none 0 0, .slice none 0 0, .bool false, .slice none 0 0, .slice none 0 0, .bool false, .slice none 0 0, .slice none 0 0, .bool false, .slice none 0 0, .slice none 0 0, .bool false, .slice none 0 0, .slice none 0 0, .bool false, .slice none 0 0, .slice none 0 0, .bool false, .slice none 0 0, .slice none 0 0, .bool false, .slice none 0 0, .slice none 0 0, .bool false, .slice none 0 0, .slice none 0 0]), .struct #[⟨"A", 29, 0, false, "", "", 0⟩, ⟨"B", 29, 9, false, "", "", 168⟩, ⟨"C", 29, 18, false, "", "", 336⟩]⟩
 | 59 => some ⟨28, 512, some (.agg #[.bool false, .slice none 0 0, .slice none 0 0, .bool false, .slice none 0 0, .slice none 0 0, .bool false, .slice none 0 0, .slice none 0 0, .bool false, .slice none 0 0, .slice none 0 0, .bool false, .slice none 0 0, .slice none 0 0, .bool false, .slice none 0 0, .slice none 0 0, .bool false, .slice none 0 0, .slice none 0 0, .bool false, .slice none 0 0, .slice none 0 0, .bool false, .slice none 0 0, .slice none 0 0, .int .i64 (0)]), .struct #[⟨"Tri", 58, 0, true, "", "", 0⟩, ⟨"Mat", 3, 27, false, "", "", 504⟩]⟩
 | 60 => some ⟨28, 512, some (.agg #[.bool false, .slice none 0 0, .slice none 0 0, .bool false, .slice none 0 0, .slice none 0 0, .bool false, .slice none 0 0, .slice none 0 0, .bool false, .slice none 0 0, .slice none 0 0, .bool false, .slice none 0 0, .slice none 0 0, .bool false, .slice none 0 0, .slice none 0 0, .bool false, .slice none 0 0, .slice none 0 0, .bool false, .slice none 0 0, .slice none 0 0, .bool false, .slice none 0 0, .slice none 0 0, .int .i64 (0)]), .struct #[⟨"Tri", 58, 0, true, "", "", 0⟩, ⟨"Mat", 3, 27, false, "", "", 504⟩]⟩
 | 64 => some ⟨9, 168, some (.agg #[.bool false, .slice none 0 0, .slice none 0 0, .bool false, .slice none 0 0, .slice none 0 0, .bool false, .slice none 0 0, .slice none 0 0]), .struct #[⟨"S", 27, 0, false, "", "", 0⟩, ⟨"U", 27, 3, false, "", "", 56⟩, ⟨"V", 27, 6, false, "", "", 112⟩]⟩
 | 65 => some ⟨9, 168, some (.agg #[.bool false, .slice none 0 0, .slice none 0 0, .bool false, .slice none 0 0, .slice none 0 0, .bool false, .slice none 0 0, .slice none 0 0]), .struct #[⟨"S", 27, 0, false, "", "", 0⟩, ⟨"U", 27, 3, false, "", "", 56⟩, ⟨"V", 27, 6, false, "", "", 112⟩]⟩
 | 68 => some ⟨1, 24, some (.slice none 0 0), .slice 58⟩
 | 82 => some ⟨43, 776, some (.agg #[.slice none 0 0, .slice none 0 0, .slice none 0 0, .bool false, .slice none 0 0, .slice none 0 0, .bool false, .slice none 0 0, .slice none 0 0, .bool false, .slice none 0 0, .slice none 0 0, .bool false, .slice none 0 0, .slice none 0 0, .bool false, .slice none 0 0, .slice none 0 0, .bool false, .slice none 0 0, .slice none 0 0, .int .i64 (0), .int .i64 (0), .bool false, .slice none 0 0, .slice none 0 0, .int .i64 (0), .bool false, .slice none 0 0, .slice none 0 0, .bool false, .slice none 0 0, .slice none 0 0, .bool false, .slice none 0 0, .slice none 0 0, .bool false, .slice none 0 0, .slice none 0 0, .bool false, .slice none 0 0, .slice none 0 0, .int .i64 (0)]), .struct #[⟨"Sc", 33, 0, false, "", "", 0⟩, ⟨"Face", 3, 26, false, "", "", 480⟩, ⟨"U", 27, 27, false, "", "", 488⟩, ⟨"V", 27, 30, false, "", "", 544⟩, ⟨"D", 29, 33, false, "", "", 600⟩, ⟨"Bin", 3, 42, false, "", "", 768⟩]⟩
 | 83 => some ⟨43, 776, some (.agg #[.slice none 0 0, .slice none 0 0, .slice none 0 0, .bool false, .slice none 0 0, .slice none 0 0, .bool false, .slice none 0 0, .slice none 0 0, .bool false, .slice none 0 0, .slice none 0 0, .bool false, .slice none 0 0, .slice none 0 0, .bool false, .slice none 0 0, .slice none 0 0, .bool false, .slice none 0 0, .slice none 0 0, .int .i64 (0), .int .i64 (0), .bool false, .slice none 0 0, .slice none 0 0, .int .i64 (0), .bool false, .slice none 0 0, .slice none 0 0, .bool false, .slice none 0 0, .slice none 0 0, .bool false, .slice none 0 0, .slice none 0 0, .bool false, .slice none 0 0, .slice none 0 0, .bool false, .slice none 0 0, .slice none 0 0, .int .i64 (0)]), .struct #[⟨"Sc", 33, 0, false, "", "", 0⟩, ⟨"Face", 3, 26, false, "", "", 480⟩, ⟨"U", 27, 27, false, "", "", 488⟩, ⟨"V", 27, 30, false, "", "", 544⟩, ⟨"D", 29, 33, false, "", "", 600⟩, ⟨"Bin", 3, 42, false, "", "", 768⟩]⟩
 | 89 => some ⟨1, 8, some (.pointer none), .pointer 129⟩
 | 107 => some ⟨1, 4, some (.int .u32 (0)), .int .u32⟩
 | 123 => some ⟨27, 504, some (.agg #[.bool false, .slice none 0 0, .slice none 0 0, .bool false, .slice none 0 0, .slice none 0 0, .bool false, .slice none 0 0, .slice none 0 0, .bool false, .slice none 0 0, .slice none 0 0, .bool false, .slice none 0 0, .slice none 0 0, .bool false, .slice none 0 0, .slice none 0 0, .bool false, .slice none 0 0, .slice none 0 0, .bool false, .slice none 0 0, .slice none 0 0, .bool false, .slice none 0 0, .slice none 0 0]), .array 3 29⟩
 | 125 => some ⟨1, 24, some (.slice none 0 0), .slice 185⟩
 | 126 => some ⟨2, 48, some (.agg #[.slice none 0 0, .slice none 0 0]), .struct #[⟨"Nodes", 125, 0, false, "", "", 0⟩, ⟨"Order", 35, 1, false, "", "", 24⟩]⟩
 | 127 => some ⟨2, 48, some (.agg #[.slice none 0 0, .slice none 0 0]), .struct #[⟨"Nodes", 125, 0, false, "", "", 0⟩, ⟨"Order", 35, 1, false, "", "", 24⟩]⟩
 | 128 => some ⟨32, 624, some (.agg #[.slice none 0 0, .slice none 0 0, .slice none 0 0, .bool false, .slice none 0 0, .slice none 0 0, .bool false, .slice none 0 0, .slice none 0 0, .bool false, .slice none 0 0, .slice none 0 0, .bool false, .slice none 0 0, .slice none 0 0, .bool false, .slice none 0 0, .slice none 0 0, .bool false, .slice none 0 0, .slice none 0 0, .int .i64 (0), .int .i64 (0), .bool false, .slice none 0 0, .slice none 0 0, .slice none 0 0, .slice none 0 0, .slice none 0 0, .slice none 0 0, .slice none 0 0, .slice none 0 0]), .struct #[⟨"Scene", 33, 0, true, "", "", 0⟩, ⟨"Tris", 68, 26, false, "", "", 480⟩, ⟨"Tree", 127, 27, false, "", "", 504⟩, ⟨"Units", 42, 29, false, "", "", 552⟩, ⟨"Areas", 22, 30, false, "", "", 576⟩, ⟨"Lights", 35, 31, false, "", "", 600⟩]⟩
 | 129 => some ⟨32, 624, some (.agg #[.slice none 0 0, .slice none 0 0, .slice none 0 0, .bool false, .slice none 0 0, .slice none 0 0, .bool false, .slice none 0 0, .slice none 0 0, .bool false, .slice none 0 0, .slice none 0 0, .bool false, .slice none 0 0, .slice none 0 0, .bool false, .slice none 0 0, .slice none 0 0, .bool false, .slice none 0 0, .slice none 0 0, .int .i64 (0), .int .i64 (0), .bool false, .slice none 0 0, .slice none 0 0, .slice none 0 0, .slice none 0 0, .slice none 0 0, .slice none 0 0, .slice none 0 0, .slice none 0 0]), .struct #[⟨"Scene", 33, 0, true, "", "", 0⟩, ⟨"Tris", 68, 26, false, "", "", 480⟩, ⟨"Tree", 127, 27, false, "", "", 504⟩, ⟨"Units", 42, 29, false, "", "", 552⟩, ⟨"Areas", 22, 30, false, "", "", 576⟩, ⟨"Lights", 35, 31, false, "", "", 600⟩]⟩
 | 150 => some ⟨1, 8, some (.int .u64 (0)), .int .u64⟩
 | 152 => some ⟨1, 8, some (.pointer none), .pointer 154⟩
 | 153 => some ⟨4, 96, some (.agg #[.slice none 0 0, .slice none 0 0, .slice none 0 0, .slice none 0 0]), .struct #[⟨"Tree", 127, 0, true, "", "", 0⟩, ⟨"tris", 68, 2, false, "", "penumbra/bvh", 48⟩, ⟨"at", 42, 3, false, "", "penumbra/bvh", 72⟩]⟩
 | 154 => some ⟨4, 96, some (.agg #[.slice none 0 0, .slice none 0 0, .slice none 0 0, .slice none 0 0]), .struct #[⟨"Tree", 127, 0, true, "", "", 0⟩, ⟨"tris", 68, 2, false, "", "penumbra/bvh", 48⟩, ⟨"at", 42, 3, false, "", "penumbra/bvh", 72⟩]⟩
 | 155 => some ⟨18, 336, some (.agg #[.bool false, .slice none 0 0, .slice none 0 0, .bool false, .slice none 0 0, .slice none 0 0, .bool false, .slice none 0 0, .slice none 0 0, .bool false, .slice none 0 0, .slice none 0 0, .bool false, .slice none 0 0, .slice none 0 0, .bool false, .slice none 0 0, .slice none 0 0]), .struct #[⟨"Lo", 29, 0, false, "", "", 0⟩, ⟨"Hi", 29, 9, false, "", "", 168⟩]⟩
 | 156 => some ⟨18, 336, some (.agg #[.bool false, .slice none 0 0, .slice none 0 0, .bool false, .slice none 0 0, .slice none 0 0, .bool false, .slice none 0 0, .slice none 0 0, .bool false, .slice none 0 0, .slice none 0 0, .bool false, .slice none 0 0, .slice none 0 0, .bool false, .slice none 0 0, .slice none 0 0]), .struct #[⟨"Lo", 29, 0, false, "", "", 0⟩, ⟨"Hi", 29, 9, false, "", "", 168⟩]⟩
 | 159 => some ⟨1, 8, some (.pointer none), .pointer 162⟩
 | 160 => some ⟨1, 24, some (.slice none 0 0), .slice 4⟩
 | 161 => some ⟨32, 608, some (.agg #[.slice none 0 0, .slice none 0 0, .slice none 0 0, .bool false, .slice none 0 0, .slice none 0 0, .bool false, .slice none 0 0, .slice none 0 0, .bool false, .slice none 0 0, .slice none 0 0, .bool false, .slice none 0 0, .slice none 0 0, .bool false, .slice none 0 0, .slice none 0 0, .bool false, .slice none 0 0, .slice none 0 0, .int .i64 (0), .slice none 0 0, .bool false, .slice none 0 0, .slice none 0 0, .bool false, .slice none 0 0, .slice none 0 0, .bool false, .slice none 0 0, .slice none 0 0]), .struct #[⟨"Tree", 127, 0, true, "", "", 0⟩, ⟨"tris", 68, 2, false, "", "penumbra/trace", 48⟩, ⟨"o", 29, 3, false, "", "penumbra/trace", 72⟩, ⟨"d", 29, 12, false, "", "penumbra/trace", 240⟩, ⟨"best", 3, 21, false, "", "penumbra/trace", 408⟩, ⟨"seen", 160, 22, false, "", "penumbra/trace", 416⟩, ⟨"Meet", 65, 23, true, "", "", 440⟩]⟩
 | 162 => some ⟨32, 608, some (.agg #[.slice none 0 0, .slice none 0 0, .slice none 0 0, .bool false, .slice none 0 0, .slice none 0 0, .bool false, .slice none 0 0, .slice none 0 0, .bool false, .slice none 0 0, .slice none 0 0, .bool false, .slice none 0 0, .slice none 0 0, .bool false, .slice none 0 0, .slice none 0 0, .bool false, .slice none 0 0, .slice none 0 0, .int .i64 (0), .slice none 0 0, .bool false, .slice none 0 0, .slice none 0 0, .bool false, .slice none 0 0, .slice none 0 0, .bool false, .slice none 0 0, .slice none 0 0]), .struct #[⟨"Tree", 127, 0, true, "", "", 0⟩, ⟨"tris", 68, 2, false, "", "penumbra/trace", 48⟩, ⟨"o", 29, 3, false, "", "penumbra/trace", 72⟩, ⟨"d", 29, 12, false, "", "penumbra/trace", 240⟩, ⟨"best", 3, 21, false, "", "penumbra/trace", 408⟩, ⟨"seen", 160, 22, false, "", "penumbra/trace", 416⟩, ⟨"Meet", 65, 23, true, "", "", 440⟩]⟩
 | 164 => some ⟨4, 4, some (.agg #[.bool false, .bool false, .bool false, .bool false]), .array 4 4⟩
 | 165 => some ⟨30, 488, some (.agg #[.slice none 0 0, .slice none 0 0, .slice none 0 0, .bool false, .slice none 0 0, .slice none 0 0, .bool false, .slice none 0 0, .slice none 0 0, .bool false, .slice none 0 0, .slice none 0 0, .bool false, .slice none 0 0, .slice none 0 0, .bool false, .slice none 0 0, .slice none 0 0, .bool false, .slice none 0 0, .slice none 0 0, .int .i64 (0), .int .i64 (0), .bool false, .slice none 0 0, .slice none 0 0, .bool false, .bool false, .bool false, .bool false]), .struct #[⟨"Sc", 33, 0, false, "", "", 0⟩, ⟨"Seen", 164, 26, false, "", "", 480⟩]⟩
 | 166 => some ⟨30, 488, some (.agg #[.slice none 0 0, .slice none 0 0, .slice none 0 0, .bool false, .slice none 0 0, .slice none 0 0, .bool false, .slice none 0 0, .slice none 0 0, .bool false, .slice none 0 0, .slice none 0 0, .bool false, .slice none 0 0, .slice none 0 0, .bool false, .slice none 0 0, .slice none 0 0, .bool false, .slice none 0 0, .slice none 0 0, .int .i64 (0), .int .i64 (0), .bool false, .slice none 0 0, .slice none 0 0, .bool false, .bool false, .bool false, .bool false]), .struct #[⟨"Sc", 33, 0, false, "", "", 0⟩, ⟨"Seen", 164, 26, false, "", "", 480⟩]⟩
 | 167 => some ⟨1, 24, some (.slice none 0 0), .slice 9⟩
 | 172 => some ⟨1, 8, some (.int .u64 (0)), .int .u64⟩
 | 182 => some ⟨1, 24, some (.slice none 0 0), .slice 156⟩
 | 184 => some ⟨22, 368, some (.agg #[.bool false, .slice none 0 0, .slice none 0 0, .bool false, .slice none 0 0, .slice none 0 0, .bool false, .slice none 0 0, .slice none 0 0, .bool false, .slice none 0 0, .slice none 0 0, .bool false, .slice none 0 0, .slice none 0 0, .bool false, .slice none 0 0, .slice none 0 0, .int .i64 (0), .int .i64 (0), .int .i64 (0), .int .i64 (0)]), .struct #[⟨"Box", 156, 0, true, "", "", 0⟩, ⟨"Left", 3, 18, false, "", "", 336⟩, ⟨"Right", 3, 19, false, "", "", 344⟩, ⟨"From", 3, 20, false, "", "", 352⟩, ⟨"Count", 3, 21, false, "", "", 360⟩]⟩
 | 185 => some ⟨22, 368, some (.agg #[.bool false, .slice none 0 0, .slice none 0 0, .bool false, .slice none 0 0, .slice none 0 0, .bool false, .slice none 0 0, .slice none 0 0, .bool false, .slice none 0 0, .slice none 0 0, .bool false, .slice none 0 0, .slice none 0 0, .bool false, .slice none 0 0, .slice none 0 0, .int .i64 (0), .int .i64 (0), .int .i64 (0), .int .i64 (0)]), .struct #[⟨"Box", 156, 0, true, "", "", 0⟩, ⟨"Left", 3, 18, false, "", "", 336⟩, ⟨"Right", 3, 19, false, "", "", 344⟩, ⟨"From", 3, 20, false, "", "", 352⟩, ⟨"Count", 3, 21, false, "", "", 360⟩]⟩
 | 187 => some ⟨7, 120, some (.agg #[.bool false, .slice none 0 0, .slice none 0 0, .bool false, .slice none 0 0, .slice none 0 0, .bool false]), .struct #[⟨"From", 27, 0, false, "", "", 0⟩, ⟨"To", 27, 3, false, "", "", 56⟩, ⟨"Open", 4, 6, false, "", "", 112⟩]⟩
 | 188 => some ⟨7, 120, some (.agg #[.bool false, .slice none 0 0, .slice none 0 0, .bool false, .slice none 0 0, .slice none 0 0, .bool false]), .struct #[⟨"From", 27, 0, false, "", "", 0⟩, ⟨"To", 27, 3, false, "", "", 56⟩, ⟨"Open", 4, 6, false, "", "", 112⟩]⟩
 | 192 => some ⟨2, 16, some (.agg #[.int .i64 (0), .int .i64 (0)]), .array 2 3⟩
 | 206 => some ⟨9, 168, some (.agg #[.bool false, .slice none 0 0, .slice none 0 0, .bool false, .slice none 0 0, .slice none 0 0, .bool false, .slice none 0 0, .slice none 0 0]), .array 3 27⟩
 | 217 => some ⟨0, 0, some (.agg #[]), .array 0 16⟩
 | 224 => some ⟨1, 8, some (.pointer none), .pointer 5⟩
 | 229 => some ⟨1, 16, some (.agg #[.string ⟨#[]⟩]), .struct #[⟨"s", 9, 0, false, "", "errors", 0⟩]⟩
 | _ => none
theorem tokOf {T : TypeId} {a b : Nat} {c : Option Value} {u : TypeDesc} (h : (P.info? T).map (fun i => (i.size, i.bytes, i.zero)) = some (a, b, c)) (hu : P.underlying T = some u)
  (hz : ∀ z, c = some z → z.cells.size = a ∧ z.cells.toList.all Value.oneCell' = true) : TOk P T ⟨a, b, c, u⟩ := by
 cases hi : P.info? T with
 | none => rw [hi] at h; cases h
 | some info => rw [hi] at h; cases h; exact ⟨⟨info, hi, rfl, rfl, rfl⟩, hu, hz⟩
theorem ttOk : TTok P tt := fun T i h => by
 unfold tt at h
 split at h <;> first | (cases h; done) | (cases h; exact tokOf (by kernel_rfl) (by kernel_rfl) (fun z h => by cases h; exact ⟨rfl, rfl⟩))
theorem mix : P.follows .mixedOrders = true := by kernel_rfl
namespace T
abbrev int : TypeId := 3
abbrev bool : TypeId := 4
abbrev string : TypeId := 9
abbrev L_api_Rat : TypeId := 22
abbrev L_api_Mat : TypeId := 23
abbrev L_api_Face : TypeId := 24
abbrev L_uint32 : TypeId := 25
abbrev api_Rat : TypeId := 27
abbrev api_Vec : TypeId := 29
abbrev api_Camera : TypeId := 31
abbrev api_Scene : TypeId := 33
abbrev A2_api_Vec : TypeId := 34
abbrev api_Mat : TypeId := 51
abbrev api_Tri : TypeId := 58
abbrev api_Face : TypeId := 60
abbrev penumbralaw15_Start : TypeId := 83
abbrev uint32 : TypeId := 107
abbrev api_Box : TypeId := 156
abbrev api_Node : TypeId := 185
end T
namespace F
abbrev penumbralaw15_ChainEnds : FuncId := 4
abbrev penumbralaw15_ChainPlain : FuncId := 5
abbrev penumbralaw15_ChainStraight : FuncId := 6
abbrev penumbralaw15_ChainBack : FuncId := 7
abbrev chain_Follow : FuncId := 8
abbrev penumbraref15_Follow : FuncId := 9
abbrev penumbralaw15_fixed : FuncId := 10
abbrev penumbraref09_Check : FuncId := 12
abbrev penumbraref15_Mat : FuncId := 13
abbrev penumbraref03_One : FuncId := 14
abbrev rat_Product : FuncId := 15
abbrev penumbraref03_Is : FuncId := 16
abbrev penumbraref15_On : FuncId := 17
abbrev penumbraref03_Sign : FuncId := 18
abbrev penumbraref05_Dot : FuncId := 19
abbrev penumbraref08_Normal : FuncId := 20
abbrev penumbraref12_Nearest : FuncId := 21
abbrev penumbraref15_Tris : FuncId := 22
abbrev penumbraref07_Is : FuncId := 23
abbrev penumbraref07_Identity : FuncId := 24
abbrev penumbraref05_Is : FuncId := 25
abbrev penumbraref08_At : FuncId := 26
abbrev penumbraref05_Read : FuncId := 27
abbrev vec_Sub : FuncId := 28
abbrev affine_Apply : FuncId := 29
abbrev vec_Cross : FuncId := 30
abbrev penumbraref05_Zero : FuncId := 31
abbrev rat_Sign : FuncId := 32
abbrev vec_Dot : FuncId := 33
abbrev affine_Turn : FuncId := 34
abbrev vec_Read : FuncId := 35
abbrev affine_Det : FuncId := 36
abbrev vec_Scale : FuncId := 37
abbrev rat_Of : FuncId := 38
abbrev penumbraref15_Ints : FuncId := 39
abbrev tri_Point : FuncId := 40
abbrev tri_Normal : FuncId := 41
abbrev penumbraref15_Alone : FuncId := 42
abbrev affine_Inverse : FuncId := 43
abbrev ready_New : FuncId := 44
abbrev chain_From : FuncId := 45
abbrev penumbraref15_Bend : FuncId := 46
abbrev penumbraref15_Normal : FuncId := 47
abbrev penumbraref03_Mul : FuncId := 48
abbrev penumbraref07_Turn : FuncId := 49
abbrev penumbraref07_Stretch : FuncId := 50
abbrev penumbraref07_Then : FuncId := 51
abbrev penumbraref03_Over : FuncId := 52
abbrev penumbralaw15_room : FuncId := 53
abbrev vec_Of : FuncId := 54
abbrev penumbraref05_Of : FuncId := 55
abbrev penumbraref03_Of : FuncId := 56
abbrev penumbraref09_all : FuncId := 57
abbrev penumbraref03_Check : FuncId := 58
abbrev penumbraref01_Bits : FuncId := 59
abbrev penumbraref09_material : FuncId := 60
abbrev penumbraref08_Unit : FuncId := 61
abbrev rat_one : FuncId := 62
abbrev rat_times : FuncId := 63
abbrev rat_Read : FuncId := 64
abbrev penumbraref01_Same : FuncId := 65
abbrev penumbraref05_Sub : FuncId := 66
abbrev penumbraref08_Hit : FuncId := 67
abbrev penumbraref05_Add : FuncId := 68
abbrev penumbraref01_Zero : FuncId := 69
abbrev penumbraref03_Add : FuncId := 70
abbrev penumbraref05_Cross : FuncId := 71
abbrev penumbraref08_None : FuncId := 72
abbrev penumbraref03_Cmp : FuncId := 73
abbrev penumbraref05_Scale : FuncId := 74
abbrev penumbraref03_Read : FuncId := 75
abbrev rat_Sub : FuncId := 76
abbrev vec_Sum : FuncId := 77
abbrev vec_minor : FuncId := 78
abbrev penumbraref03_Zero : FuncId := 79
abbrev nat_Bits : FuncId := 80
abbrev rat_Sum : FuncId := 81
abbrev rat_made : FuncId := 82
abbrev rat_size : FuncId := 83
abbrev tri_sides : FuncId := 84
abbrev rat_Div : FuncId := 85
abbrev affine_Identity : FuncId := 86
abbrev affine_cofactors : FuncId := 87
abbrev scene_Check : FuncId := 88
abbrev tri_Unit : FuncId := 89
abbrev bvh_Build : FuncId := 90
abbrev trace_Nearest : FuncId := 91
abbrev tri_At : FuncId := 92
abbrev P_ready_Scene_Bend : FuncId := 93
abbrev P_ready_Scene_Mat : FuncId := 94
abbrev affine_Stretch : FuncId := 95
abbrev affine_Then : FuncId := 96
abbrev penumbraref09_Eta : FuncId := 97
abbrev penumbraref01_Mul : FuncId := 98
abbrev penumbraref07_Told : FuncId := 99
abbrev penumbraref07_stretched : FuncId := 100
abbrev penumbraref07_Apply : FuncId := 101
abbrev penumbraref03_Div : FuncId := 102
abbrev penumbraref09_Parse : FuncId := 103
abbrev penumbraref03_abs : FuncId := 104
abbrev penumbraref01_Norm : FuncId := 105
abbrev penumbraref05_Unit : FuncId := 106
abbrev nat_Mul : FuncId := 107
abbrev penumbraref03_Sub : FuncId := 108
abbrev penumbraref01_Cmp : FuncId := 109
abbrev penumbraref01_Add : FuncId := 110
abbrev penumbraref01_Sub : FuncId := 111
abbrev penumbraref02_Gcd : FuncId := 112
abbrev penumbraref01_DivMod : FuncId := 113
abbrev rat_plus : FuncId := 114
abbrev nat_trim : FuncId := 115
abbrev math_bits_LeadingZeros32 : FuncId := 116
abbrev nat_Norm : FuncId := 117
abbrev root_Gcd : FuncId := 118
abbrev nat_DivMod : FuncId := 119
abbrev nat_Of : FuncId := 120
abbrev scene_sizes : FuncId := 121
abbrev scene_material : FuncId := 122
abbrev rat_Same : FuncId := 123
abbrev vec_Unit : FuncId := 124
abbrev bvh_around : FuncId := 125
abbrev P_bvh_builder_node : FuncId := 126
abbrev P_trace_walker_node : FuncId := 127
abbrev scene_Eta : FuncId := 128
abbrev rat_Neg : FuncId := 129
abbrev affine_columns : FuncId := 130
abbrev affine_Then_1 : FuncId := 131
abbrev penumbraref09_Lines : FuncId := 132
abbrev penumbraref09_Words : FuncId := 133
abbrev penumbraref09_line : FuncId := 134
abbrev penumbraref01_Of : FuncId := 135
abbrev penumbraref03_Sqrt : FuncId := 136
abbrev penumbraref03_Neg : FuncId := 137
abbrev penumbraref01_limb : FuncId := 138
abbrev penumbraref01_Double : FuncId := 139
abbrev penumbraref01_at : FuncId := 140
abbrev penumbraref01_Half : FuncId := 141
abbrev rat_whole : FuncId := 142
abbrev nat_Add : FuncId := 143
abbrev nat_Sub : FuncId := 144
abbrev math_bits_Len32 : FuncId := 145
abbrev slices_Clone_L_uint32_uint32 : FuncId := 146
abbrev nat_Cmp : FuncId := 147
abbrev nat_small : FuncId := 148
abbrev nat_long : FuncId := 149
abbrev scene_fits : FuncId := 150
abbrev scene_fit : FuncId := 151
abbrev rat_Cmp : FuncId := 152
abbrev rat_Sqrt : FuncId := 153
abbrev boxes_Around : FuncId := 154
abbrev boxes_Join : FuncId := 155
abbrev P_bvh_builder_part : FuncId := 156
abbrev P_bvh_builder_widest : FuncId := 157
abbrev boxes_Clip : FuncId := 158
abbrev P_trace_walker_past : FuncId := 159
abbrev P_trace_walker_leaf : FuncId := 160
abbrev penumbraref09_place : FuncId := 161
abbrev penumbraref09_numbers : FuncId := 162
abbrev penumbraref09_whole : FuncId := 163
abbrev penumbraref09_vec : FuncId := 164
abbrev penumbraref02_Sqrt : FuncId := 165
abbrev math_bits_Add32 : FuncId := 166
abbrev math_bits_Sub32 : FuncId := 167
abbrev math_bits_Div32 : FuncId := 168
abbrev nat_Shl : FuncId := 169
abbrev nat_less : FuncId := 170
abbrev nat_back : FuncId := 171
abbrev nat_shr : FuncId := 172
abbrev rat_Check : FuncId := 173
abbrev root_Sqrt : FuncId := 174
abbrev boxes_least : FuncId := 175
abbrev boxes_most : FuncId := 176
abbrev P_bvh_builder_ahead : FuncId := 177
abbrev bvh_axis : FuncId := 178
abbrev boxes_axes : FuncId := 179
abbrev tri_Hit : FuncId := 180
abbrev penumbraref04_Parse : FuncId := 181
abbrev slices_Equal_L_uint32_uint32 : FuncId := 182
abbrev penumbraref04_Digits : FuncId := 183
abbrev penumbraref04_Number : FuncId := 184
end F
namespace B
noncomputable abbrev penumbralaw15_ChainEnds : Func := Go.Proofs.Tryz.f4
noncomputable abbrev penumbralaw15_ChainPlain : Func := Go.Proofs.Tryz.f5
noncomputable abbrev penumbralaw15_ChainStraight : Func := Go.Proofs.Tryz.f6
noncomputable abbrev penumbralaw15_ChainBack : Func := Go.Proofs.Tryz.f7
noncomputable abbrev chain_Follow : Func := Go.Proofs.Tryz.f8
noncomputable abbrev penumbraref15_Follow : Func := Go.Proofs.Tryz.f9
noncomputable abbrev penumbralaw15_fixed : Func := Go.Proofs.Tryz.f10
noncomputable abbrev penumbraref09_Check : Func := Go.Proofs.Tryz.f12
noncomputable abbrev penumbraref15_Mat : Func := Go.Proofs.Tryz.f13
noncomputable abbrev penumbraref03_One : Func := Go.Proofs.Tryz.f14
noncomputable abbrev rat_Product : Func := Go.Proofs.Tryz.f15
noncomputable abbrev penumbraref03_Is : Func := Go.Proofs.Tryz.f16
noncomputable abbrev penumbraref15_On : Func := Go.Proofs.Tryz.f17
noncomputable abbrev penumbraref03_Sign : Func := Go.Proofs.Tryz.f18
noncomputable abbrev penumbraref05_Dot : Func := Go.Proofs.Tryz.f19
noncomputable abbrev penumbraref08_Normal : Func := Go.Proofs.Tryz.f20
noncomputable abbrev penumbraref12_Nearest : Func := Go.Proofs.Tryz.f21
noncomputable abbrev penumbraref15_Tris : Func := Go.Proofs.Tryz.f22
noncomputable abbrev penumbraref07_Is : Func := Go.Proofs.Tryz.f23
noncomputable abbrev penumbraref07_Identity : Func := Go.Proofs.Tryz.f24
noncomputable abbrev penumbraref05_Is : Func := Go.Proofs.Tryz.f25
noncomputable abbrev penumbraref08_At : Func := Go.Proofs.Tryz.f26
noncomputable abbrev penumbraref05_Read : Func := Go.Proofs.Tryz.f27
noncomputable abbrev vec_Sub : Func := Go.Proofs.Tryz.f28
noncomputable abbrev affine_Apply : Func := Go.Proofs.Tryz.f29
noncomputable abbrev vec_Cross : Func := Go.Proofs.Tryz.f30
noncomputable abbrev penumbraref05_Zero : Func := Go.Proofs.Tryz.f31
noncomputable abbrev rat_Sign : Func := Go.Proofs.Tryz.f32
noncomputable abbrev vec_Dot : Func := Go.Proofs.Tryz.f33
noncomputable abbrev affine_Turn : Func := Go.Proofs.Tryz.f34
noncomputable abbrev vec_Read : Func := Go.Proofs.Tryz.f35
noncomputable abbrev affine_Det : Func := Go.Proofs.Tryz.f36
noncomputable abbrev vec_Scale : Func := Go.Proofs.Tryz.f37
noncomputable abbrev rat_Of : Func := Go.Proofs.Tryz.f38
noncomputable abbrev penumbraref15_Ints : Func := Go.Proofs.Tryz.f39
noncomputable abbrev tri_Point : Func := Go.Proofs.Tryz.f40
noncomputable abbrev tri_Normal : Func := Go.Proofs.Tryz.f41
noncomputable abbrev penumbraref15_Alone : Func := Go.Proofs.Tryz.f42
noncomputable abbrev affine_Inverse : Func := Go.Proofs.Tryz.f43
noncomputable abbrev ready_New : Func := Go.Proofs.Tryz.f44
noncomputable abbrev chain_From : Func := Go.Proofs.Tryz.f45
noncomputable abbrev penumbraref15_Bend : Func := Go.Proofs.Tryz.f46
noncomputable abbrev penumbraref15_Normal : Func := Go.Proofs.Tryz.f47
noncomputable abbrev penumbraref03_Mul : Func := Go.Proofs.Tryz.f48
noncomputable abbrev penumbraref07_Turn : Func := Go.Proofs.Tryz.f49
noncomputable abbrev penumbraref07_Stretch : Func := Go.Proofs.Tryz.f50
noncomputable abbrev penumbraref07_Then : Func := Go.Proofs.Tryz.f51
noncomputable abbrev penumbraref03_Over : Func := Go.Proofs.Tryz.f52
noncomputable abbrev penumbralaw15_room : Func := Go.Proofs.Tryz.f53
noncomputable abbrev vec_Of : Func := Go.Proofs.Tryz.f54
noncomputable abbrev penumbraref05_Of : Func := Go.Proofs.Tryz.f55
noncomputable abbrev penumbraref03_Of : Func := Go.Proofs.Tryz.f56
noncomputable abbrev penumbraref09_all : Func := Go.Proofs.Tryz.f57
noncomputable abbrev penumbraref03_Check : Func := Go.Proofs.Tryz.f58
noncomputable abbrev penumbraref01_Bits : Func := Go.Proofs.Tryz.f59
noncomputable abbrev penumbraref09_material : Func := Go.Proofs.Tryz.f60
noncomputable abbrev penumbraref08_Unit : Func := Go.Proofs.Tryz.f61
noncomputable abbrev rat_one : Func := Go.Proofs.Tryz.f62
noncomputable abbrev rat_times : Func := Go.Proofs.Tryz.f63
noncomputable abbrev rat_Read : Func := Go.Proofs.Tryz.f64
noncomputable abbrev penumbraref01_Same : Func := Go.Proofs.Tryz.f65
noncomputable abbrev penumbraref05_Sub : Func := Go.Proofs.Tryz.f66
noncomputable abbrev penumbraref08_Hit : Func := Go.Proofs.Tryz.f67
noncomputable abbrev penumbraref05_Add : Func := Go.Proofs.Tryz.f68
noncomputable abbrev penumbraref01_Zero : Func := Go.Proofs.Tryz.f69
noncomputable abbrev penumbraref03_Add : Func := Go.Proofs.Tryz.f70
noncomputable abbrev penumbraref05_Cross : Func := Go.Proofs.Tryz.f71
noncomputable abbrev penumbraref08_None : Func := Go.Proofs.Tryz.f72
noncomputable abbrev penumbraref03_Cmp : Func := Go.Proofs.Tryz.f73
noncomputable abbrev penumbraref05_Scale : Func := Go.Proofs.Tryz.f74
noncomputable abbrev penumbraref03_Read : Func := Go.Proofs.Tryz.f75
noncomputable abbrev rat_Sub : Func := Go.Proofs.Tryz.f76
noncomputable abbrev vec_Sum : Func := Go.Proofs.Tryz.f77
noncomputable abbrev vec_minor : Func := Go.Proofs.Tryz.f78
noncomputable abbrev penumbraref03_Zero : Func := Go.Proofs.Tryz.f79
noncomputable abbrev nat_Bits : Func := Go.Proofs.Tryz.f80
noncomputable abbrev rat_Sum : Func := Go.Proofs.Tryz.f81
noncomputable abbrev rat_made : Func := Go.Proofs.Tryz.f82
noncomputable abbrev rat_size : Func := Go.Proofs.Tryz.f83
noncomputable abbrev tri_sides : Func := Go.Proofs.Tryz.f84
noncomputable abbrev rat_Div : Func := Go.Proofs.Tryz.f85
noncomputable abbrev affine_Identity : Func := Go.Proofs.Tryz.f86
noncomputable abbrev affine_cofactors : Func := Go.Proofs.Tryz.f87
noncomputable abbrev scene_Check : Func := Go.Proofs.Tryz.f88
noncomputable abbrev tri_Unit : Func := Go.Proofs.Tryz.f89
noncomputable abbrev bvh_Build : Func := Go.Proofs.Tryz.f90
noncomputable abbrev trace_Nearest : Func := Go.Proofs.Tryz.f91
noncomputable abbrev tri_At : Func := Go.Proofs.Tryz.f92
noncomputable abbrev P_ready_Scene_Bend : Func := Go.Proofs.Tryz.f93
noncomputable abbrev P_ready_Scene_Mat : Func := Go.Proofs.Tryz.f94
noncomputable abbrev affine_Stretch : Func := Go.Proofs.Tryz.f95
noncomputable abbrev affine_Then : Func := Go.Proofs.Tryz.f96
noncomputable abbrev penumbraref09_Eta : Func := Go.Proofs.Tryz.f97
noncomputable abbrev penumbraref01_Mul : Func := Go.Proofs.Tryz.f98
noncomputable abbrev penumbraref07_Told : Func := Go.Proofs.Tryz.f99
noncomputable abbrev penumbraref07_stretched : Func := Go.Proofs.Tryz.f100
noncomputable abbrev penumbraref07_Apply : Func := Go.Proofs.Tryz.f101
noncomputable abbrev penumbraref03_Div : Func := Go.Proofs.Tryz.f102
noncomputable abbrev penumbraref09_Parse : Func := Go.Proofs.Tryz.f103
noncomputable abbrev penumbraref03_abs : Func := Go.Proofs.Tryz.f104
noncomputable abbrev penumbraref01_Norm : Func := Go.Proofs.Tryz.f105
noncomputable abbrev penumbraref05_Unit : Func := Go.Proofs.Tryz.f106
noncomputable abbrev nat_Mul : Func := Go.Proofs.Tryz.f107
noncomputable abbrev penumbraref03_Sub : Func := Go.Proofs.Tryz.f108
noncomputable abbrev penumbraref01_Cmp : Func := Go.Proofs.Tryz.f109
noncomputable abbrev penumbraref01_Add : Func := Go.Proofs.Tryz.f110
noncomputable abbrev penumbraref01_Sub : Func := Go.Proofs.Tryz.f111
noncomputable abbrev penumbraref02_Gcd : Func := Go.Proofs.Tryz.f112
noncomputable abbrev penumbraref01_DivMod : Func := Go.Proofs.Tryz.f113
noncomputable abbrev rat_plus : Func := Go.Proofs.Tryz.f114
noncomputable abbrev nat_trim : Func := Go.Proofs.Tryz.f115
noncomputable abbrev math_bits_LeadingZeros32 : Func := Go.Proofs.Tryz.f116
noncomputable abbrev nat_Norm : Func := Go.Proofs.Tryz.f117
noncomputable abbrev root_Gcd : Func := Go.Proofs.Tryz.f118
noncomputable abbrev nat_DivMod : Func := Go.Proofs.Tryz.f119
noncomputable abbrev nat_Of : Func := Go.Proofs.Tryz.f120
noncomputable abbrev scene_sizes : Func := Go.Proofs.Tryz.f121
noncomputable abbrev scene_material : Func := Go.Proofs.Tryz.f122
noncomputable abbrev rat_Same : Func := Go.Proofs.Tryz.f123
noncomputable abbrev vec_Unit : Func := Go.Proofs.Tryz.f124
noncomputable abbrev bvh_around : Func := Go.Proofs.Tryz.f125
noncomputable abbrev P_bvh_builder_node : Func := Go.Proofs.Tryz.f126
noncomputable abbrev P_trace_walker_node : Func := Go.Proofs.Tryz.f127
noncomputable abbrev scene_Eta : Func := Go.Proofs.Tryz.f128
noncomputable abbrev rat_Neg : Func := Go.Proofs.Tryz.f129
noncomputable abbrev affine_columns : Func := Go.Proofs.Tryz.f130
noncomputable abbrev affine_Then_1 : Func := Go.Proofs.Tryz.f131
noncomputable abbrev penumbraref09_Lines : Func := Go.Proofs.Tryz.f132
noncomputable abbrev penumbraref09_Words : Func := Go.Proofs.Tryz.f133
noncomputable abbrev penumbraref09_line : Func := Go.Proofs.Tryz.f134
noncomputable abbrev penumbraref01_Of : Func := Go.Proofs.Tryz.f135
noncomputable abbrev penumbraref03_Sqrt : Func := Go.Proofs.Tryz.f136
noncomputable abbrev penumbraref03_Neg : Func := Go.Proofs.Tryz.f137
noncomputable abbrev penumbraref01_limb : Func := Go.Proofs.Tryz.f138
noncomputable abbrev penumbraref01_Double : Func := Go.Proofs.Tryz.f139
noncomputable abbrev penumbraref01_at : Func := Go.Proofs.Tryz.f140
noncomputable abbrev penumbraref01_Half : Func := Go.Proofs.Tryz.f141
noncomputable abbrev rat_whole : Func := Go.Proofs.Tryz.f142
noncomputable abbrev nat_Add : Func := Go.Proofs.Tryz.f143
noncomputable abbrev nat_Sub : Func := Go.Proofs.Tryz.f144
noncomputable abbrev math_bits_Len32 : Func := Go.Proofs.Tryz.f145
noncomputable abbrev slices_Clone_L_uint32_uint32 : Func := Go.Proofs.Tryz.f146
noncomputable abbrev nat_Cmp : Func := Go.Proofs.Tryz.f147
noncomputable abbrev nat_small : Func := Go.Proofs.Tryz.f148
noncomputable abbrev nat_long : Func := Go.Proofs.Tryz.f149
noncomputable abbrev scene_fits : Func := Go.Proofs.Tryz.f150
noncomputable abbrev scene_fit : Func := Go.Proofs.Tryz.f151
noncomputable abbrev rat_Cmp : Func := Go.Proofs.Tryz.f152
noncomputable abbrev rat_Sqrt : Func := Go.Proofs.Tryz.f153
noncomputable abbrev boxes_Around : Func := Go.Proofs.Tryz.f154
noncomputable abbrev boxes_Join : Func := Go.Proofs.Tryz.f155
noncomputable abbrev P_bvh_builder_part : Func := Go.Proofs.Tryz.f156
noncomputable abbrev P_bvh_builder_widest : Func := Go.Proofs.Tryz.f157
noncomputable abbrev boxes_Clip : Func := Go.Proofs.Tryz.f158
noncomputable abbrev P_trace_walker_past : Func := Go.Proofs.Tryz.f159
noncomputable abbrev P_trace_walker_leaf : Func := Go.Proofs.Tryz.f160
noncomputable abbrev penumbraref09_place : Func := Go.Proofs.Tryz.f161
noncomputable abbrev penumbraref09_numbers : Func := Go.Proofs.Tryz.f162
noncomputable abbrev penumbraref09_whole : Func := Go.Proofs.Tryz.f163
noncomputable abbrev penumbraref09_vec : Func := Go.Proofs.Tryz.f164
noncomputable abbrev penumbraref02_Sqrt : Func := Go.Proofs.Tryz.f165
noncomputable abbrev math_bits_Add32 : Func := Go.Proofs.Tryz.f166
noncomputable abbrev math_bits_Sub32 : Func := Go.Proofs.Tryz.f167
noncomputable abbrev math_bits_Div32 : Func := Go.Proofs.Tryz.f168
noncomputable abbrev nat_Shl : Func := Go.Proofs.Tryz.f169
noncomputable abbrev nat_less : Func := Go.Proofs.Tryz.f170
noncomputable abbrev nat_back : Func := Go.Proofs.Tryz.f171
noncomputable abbrev nat_shr : Func := Go.Proofs.Tryz.f172
noncomputable abbrev rat_Check : Func := Go.Proofs.Tryz.f173
noncomputable abbrev root_Sqrt : Func := Go.Proofs.Tryz.f174
noncomputable abbrev boxes_least : Func := Go.Proofs.Tryz.f175
noncomputable abbrev boxes_most : Func := Go.Proofs.Tryz.f176
noncomputable abbrev P_bvh_builder_ahead : Func := Go.Proofs.Tryz.f177
noncomputable abbrev bvh_axis : Func := Go.Proofs.Tryz.f178
noncomputable abbrev boxes_axes : Func := Go.Proofs.Tryz.f179
noncomputable abbrev tri_Hit : Func := Go.Proofs.Tryz.f180
noncomputable abbrev penumbraref04_Parse : Func := Go.Proofs.Tryz.f181
noncomputable abbrev slices_Equal_L_uint32_uint32 : Func := Go.Proofs.Tryz.f182
noncomputable abbrev penumbraref04_Digits : Func := Go.Proofs.Tryz.f183
noncomputable abbrev penumbraref04_Number : Func := Go.Proofs.Tryz.f184
end B
def ro : FuncId → Bool
 | 93 => true
 | 94 => true
 | 131 => true
 | 157 => true
 | 177 => true
 | _ => false
def CC (C : FuncId → List D → V → Prop) : Prop := ∀ g ds r, Good P g (ds.map V.d) [] r [] → C g ds r
def CC2 (C2 : FuncId → List V → List Blk → V → List Blk → Prop) : Prop := ∀ g args bs r bs', Good P g args bs r bs' → C2 g args bs r bs'
theorem goodOf {f : FuncId} {fn : Func} (hf : P.funcs[f]? = some fn) (hn : (fn.name == "runtime.NumGoroutine") = false) (hc : (match fn.body with | some c => codeOk fn.ntmps c | none => false) = true)
  (md : FuncId → Bool) {args : List V} {r : V} (ha : args.length ≤ fn.ntmps) (h : ∀ C C2, CC C → CC2 C2 → wpF Ω ⟨tt, C, C2, md, 0, ro⟩ fn args (fun x => x = r)) : Good P f args [] r [] :=
 good_of_wpF (envOf_ok ttOk md 0 ro) mix rfl hf hn hc ha (h _ _ (fun _ _ _ h => h) (fun _ _ _ _ _ h => h))
theorem goodOf2 {f : FuncId} {fn : Func} (hf : P.funcs[f]? = some fn) (hn : (fn.name == "runtime.NumGoroutine") = false) (hc : (match fn.body with | some c => codeOk fn.ntmps c | none => false) = true)
  (md : FuncId → Bool) {args : List V} {bs bs' : List Blk} {r : V} (hb : bs.length ≤ 1000) (ha : args.length ≤ fn.ntmps) (h : ∀ C C2, CC C → CC2 C2 → wpF2 Ω ⟨tt, C, C2, md, bs.length, ro⟩ fn args bs (fun x b => x = r ∧ b = bs')) : Good P f args bs r bs' :=
 good_of_wpF2 (envOf_ok ttOk md bs.length ro) mix rfl hb hf hn hc ha (h _ _ (fun _ _ _ h => h) (fun _ _ _ _ _ h => h))
def md : FuncId → Bool
 | 44 => true
 | 45 => true
 | 93 => true
 | 94 => true
 | 126 => true
 | 127 => true
 | 131 => true
 | 134 => true
 | 156 => true
 | 157 => true
 | 159 => true
 | 160 => true
 | 170 => true
 | 171 => true
 | 177 => true
 | _ => false
namespace G
/-- the form of a function's rule -/
abbrev GG (n : FuncId) (b : Func) : Prop := ∀ {args : List V} {r : V} (h : ∀ C C2, CC C → CC2 C2 → wpF Ω ⟨tt, C, C2, md, 0, ro⟩ b args (fun x => x = r)) (ha : args.length ≤ b.ntmps := by exact of_decide_eq_true rfl), Good P n args [] r []
theorem penumbralaw15_ChainEnds : GG F.penumbralaw15_ChainEnds B.penumbralaw15_ChainEnds := fun h ha => goodOf Go.Proofs.Tryz.func4 (by kernel_rfl) (by kernel_rfl) md ha h
theorem penumbralaw15_ChainPlain : GG F.penumbralaw15_ChainPlain B.penumbralaw15_ChainPlain := fun h ha => goodOf Go.Proofs.Tryz.func5 (by kernel_rfl) (by kernel_rfl) md ha h
theorem penumbralaw15_ChainStraight : GG F.penumbralaw15_ChainStraight B.penumbralaw15_ChainStraight := fun h ha => goodOf Go.Proofs.Tryz.func6 (by kernel_rfl) (by kernel_rfl) md ha h
theorem penumbralaw15_ChainBack : GG F.penumbralaw15_ChainBack B.penumbralaw15_ChainBack := fun h ha => goodOf Go.Proofs.Tryz.func7 (by kernel_rfl) (by kernel_rfl) md ha h
theorem chain_Follow : GG F.chain_Follow B.chain_Follow := fun h ha => goodOf Go.Proofs.Tryz.func8 (by kernel_rfl) (by kernel_rfl) md ha h
theorem penumbraref15_Follow : GG F.penumbraref15_Follow B.penumbraref15_Follow := fun h ha => goodOf Go.Proofs.Tryz.func9 (by kernel_rfl) (by kernel_rfl) md ha h
theorem penumbralaw15_fixed : GG F.penumbralaw15_fixed B.penumbralaw15_fixed := fun h ha => goodOf Go.Proofs.Tryz.func10 (by kernel_rfl) (by kernel_rfl) md ha h
theorem penumbraref09_Check : GG F.penumbraref09_Check B.penumbraref09_Check := fun h ha => goodOf Go.Proofs.Tryz.func12 (by kernel_rfl) (by kernel_rfl) md ha h
theorem penumbraref15_Mat : GG F.penumbraref15_Mat B.penumbraref15_Mat := fun h ha => goodOf Go.Proofs.Tryz.func13 (by kernel_rfl) (by kernel_rfl) md ha h
theorem penumbraref03_One : GG F.penumbraref03_One B.penumbraref03_One := fun h ha => goodOf Go.Proofs.Tryz.func14 (by kernel_rfl) (by kernel_rfl) md ha h
theorem rat_Product : GG F.rat_Product B.rat_Product := fun h ha => goodOf Go.Proofs.Tryz.func15 (by kernel_rfl) (by kernel_rfl) md ha h
theorem penumbraref03_Is : GG F.penumbraref03_Is B.penumbraref03_Is := fun h ha => goodOf Go.Proofs.Tryz.func16 (by kernel_rfl) (by kernel_rfl) md ha h
theorem penumbraref15_On : GG F.penumbraref15_On B.penumbraref15_On := fun h ha => goodOf Go.Proofs.Tryz.func17 (by kernel_rfl) (by kernel_rfl) md ha h
theorem penumbraref03_Sign : GG F.penumbraref03_Sign B.penumbraref03_Sign := fun h ha => goodOf Go.Proofs.Tryz.func18 (by kernel_rfl) (by kernel_rfl) md ha h
theorem penumbraref05_Dot : GG F.penumbraref05_Dot B.penumbraref05_Dot := fun h ha => goodOf Go.Proofs.Tryz.func19 (by kernel_rfl) (by kernel_rfl) md ha h
theorem penumbraref08_Normal : GG F.penumbraref08_Normal B.penumbraref08_Normal := fun h ha => goodOf Go.Proofs.Tryz.func20 (by kernel_rfl) (by kernel_rfl) md ha h
theorem penumbraref12_Nearest : GG F.penumbraref12_Nearest B.penumbraref12_Nearest := fun h ha => goodOf Go.Proofs.Tryz.func21 (by kernel_rfl) (by kernel_rfl) md ha h
theorem penumbraref15_Tris : GG F.penumbraref15_Tris B.penumbraref15_Tris := fun h ha => goodOf Go.Proofs.Tryz.func22 (by kernel_rfl) (by kernel_rfl) md ha h
theorem penumbraref07_Is : GG F.penumbraref07_Is B.penumbraref07_Is := fun h ha => goodOf Go.Proofs.Tryz.func23 (by kernel_rfl) (by kernel_rfl) md ha h
theorem penumbraref07_Identity : GG F.penumbraref07_Identity B.penumbraref07_Identity := fun h ha => goodOf Go.Proofs.Tryz.func24 (by kernel_rfl) (by kernel_rfl) md ha h
theorem penumbraref05_Is : GG F.penumbraref05_Is B.penumbraref05_Is := fun h ha => goodOf Go.Proofs.Tryz.func25 (by kernel_rfl) (by kernel_rfl) md ha h
theorem penumbraref08_At : GG F.penumbraref08_At B.penumbraref08_At := fun h ha => goodOf Go.Proofs.Tryz.func26 (by kernel_rfl) (by kernel_rfl) md ha h
theorem penumbraref05_Read : GG F.penumbraref05_Read B.penumbraref05_Read := fun h ha => goodOf Go.Proofs.Tryz.func27 (by kernel_rfl) (by kernel_rfl) md ha h
theorem vec_Sub : GG F.vec_Sub B.vec_Sub := fun h ha => goodOf Go.Proofs.Tryz.func28 (by kernel_rfl) (by kernel_rfl) md ha h
theorem affine_Apply : GG F.affine_Apply B.affine_Apply := fun h ha => goodOf Go.Proofs.Tryz.func29 (by kernel_rfl) (by kernel_rfl) md ha h
theorem vec_Cross : GG F.vec_Cross B.vec_Cross := fun h ha => goodOf Go.Proofs.Tryz.func30 (by kernel_rfl) (by kernel_rfl) md ha h
theorem penumbraref05_Zero : GG F.penumbraref05_Zero B.penumbraref05_Zero := fun h ha => goodOf Go.Proofs.Tryz.func31 (by kernel_rfl) (by kernel_rfl) md ha h
theorem rat_Sign : GG F.rat_Sign B.rat_Sign := fun h ha => goodOf Go.Proofs.Tryz.func32 (by kernel_rfl) (by kernel_rfl) md ha h
theorem vec_Dot : GG F.vec_Dot B.vec_Dot := fun h ha => goodOf Go.Proofs.Tryz.func33 (by kernel_rfl) (by kernel_rfl) md ha h
theorem affine_Turn : GG F.affine_Turn B.affine_Turn := fun h ha => goodOf Go.Proofs.Tryz.func34 (by kernel_rfl) (by kernel_rfl) md ha h
theorem vec_Read : GG F.vec_Read B.vec_Read := fun h ha => goodOf Go.Proofs.Tryz.func35 (by kernel_rfl) (by kernel_rfl) md ha h
theorem affine_Det : GG F.affine_Det B.affine_Det := fun h ha => goodOf Go.Proofs.Tryz.func36 (by kernel_rfl) (by kernel_rfl) md ha h
theorem vec_Scale : GG F.vec_Scale B.vec_Scale := fun h ha => goodOf Go.Proofs.Tryz.func37 (by kernel_rfl) (by kernel_rfl) md ha h
theorem rat_Of : GG F.rat_Of B.rat_Of := fun h ha => goodOf Go.Proofs.Tryz.func38 (by kernel_rfl) (by kernel_rfl) md ha h
theorem penumbraref15_Ints : GG F.penumbraref15_Ints B.penumbraref15_Ints := fun h ha => goodOf Go.Proofs.Tryz.func39 (by kernel_rfl) (by kernel_rfl) md ha h
theorem tri_Point : GG F.tri_Point B.tri_Point := fun h ha => goodOf Go.Proofs.Tryz.func40 (by kernel_rfl) (by kernel_rfl) md ha h
theorem tri_Normal : GG F.tri_Normal B.tri_Normal := fun h ha => goodOf Go.Proofs.Tryz.func41 (by kernel_rfl) (by kernel_rfl) md ha h
theorem penumbraref15_Alone : GG F.penumbraref15_Alone B.penumbraref15_Alone := fun h ha => goodOf Go.Proofs.Tryz.func42 (by kernel_rfl) (by kernel_rfl) md ha h
theorem affine_Inverse : GG F.affine_Inverse B.affine_Inverse := fun h ha => goodOf Go.Proofs.Tryz.func43 (by kernel_rfl) (by kernel_rfl) md ha h
theorem ready_New {args : List V} {bs bs' : List Blk} {r : V} (h : ∀ C C2, CC C → CC2 C2 → wpF2 Ω ⟨tt, C, C2, md, bs.length, ro⟩ B.ready_New args bs (fun x b => x = r ∧ b = bs')) (hb : bs.length ≤ 1000 := by decide) (ha : args.length ≤ (B.ready_New).ntmps := by exact of_decide_eq_true rfl) : Good P F.ready_New args bs r bs' := goodOf2 Go.Proofs.Tryz.func44 (by kernel_rfl) (by kernel_rfl) md hb ha h
theorem chain_From {args : List V} {bs bs' : List Blk} {r : V} (h : ∀ C C2, CC C → CC2 C2 → wpF2 Ω ⟨tt, C, C2, md, bs.length, ro⟩ B.chain_From args bs (fun x b => x = r ∧ b = bs')) (hb : bs.length ≤ 1000 := by decide) (ha : args.length ≤ (B.chain_From).ntmps := by exact of_decide_eq_true rfl) : Good P F.chain_From args bs r bs' := goodOf2 Go.Proofs.Tryz.func45 (by kernel_rfl) (by kernel_rfl) md hb ha h
theorem penumbraref15_Bend : GG F.penumbraref15_Bend B.penumbraref15_Bend := fun h ha => goodOf Go.Proofs.Tryz.func46 (by kernel_rfl) (by kernel_rfl) md ha h
theorem penumbraref15_Normal : GG F.penumbraref15_Normal B.penumbraref15_Normal := fun h ha => goodOf Go.Proofs.Tryz.func47 (by kernel_rfl) (by kernel_rfl) md ha h
theorem penumbraref03_Mul : GG F.penumbraref03_Mul B.penumbraref03_Mul := fun h ha => goodOf Go.Proofs.Tryz.func48 (by kernel_rfl) (by kernel_rfl) md ha h
theorem penumbraref07_Turn : GG F.penumbraref07_Turn B.penumbraref07_Turn := fun h ha => goodOf Go.Proofs.Tryz.func49 (by kernel_rfl) (by kernel_rfl) md ha h
theorem penumbraref07_Stretch : GG F.penumbraref07_Stretch B.penumbraref07_Stretch := fun h ha => goodOf Go.Proofs.Tryz.func50 (by kernel_rfl) (by kernel_rfl) md ha h
theorem penumbraref07_Then : GG F.penumbraref07_Then B.penumbraref07_Then := fun h ha => goodOf Go.Proofs.Tryz.func51 (by kernel_rfl) (by kernel_rfl) md ha h
theorem penumbraref03_Over : GG F.penumbraref03_Over B.penumbraref03_Over := fun h ha => goodOf Go.Proofs.Tryz.func52 (by kernel_rfl) (by kernel_rfl) md ha h
theorem penumbralaw15_room : GG F.penumbralaw15_room B.penumbralaw15_room := fun h ha => goodOf Go.Proofs.Tryz.func53 (by kernel_rfl) (by kernel_rfl) md ha h
theorem vec_Of : GG F.vec_Of B.vec_Of := fun h ha => goodOf Go.Proofs.Tryz.func54 (by kernel_rfl) (by kernel_rfl) md ha h
theorem penumbraref05_Of : GG F.penumbraref05_Of B.penumbraref05_Of := fun h ha => goodOf Go.Proofs.Tryz.func55 (by kernel_rfl) (by kernel_rfl) md ha h
theorem penumbraref03_Of : GG F.penumbraref03_Of B.penumbraref03_Of := fun h ha => goodOf Go.Proofs.Tryz.func56 (by kernel_rfl) (by kernel_rfl) md ha h
theorem penumbraref09_all : GG F.penumbraref09_all B.penumbraref09_all := fun h ha => goodOf Go.Proofs.Tryz.func57 (by kernel_rfl) (by kernel_rfl) md ha h
theorem penumbraref03_Check : GG F.penumbraref03_Check B.penumbraref03_Check := fun h ha => goodOf Go.Proofs.Tryz.func58 (by kernel_rfl) (by kernel_rfl) md ha h
theorem penumbraref01_Bits : GG F.penumbraref01_Bits B.penumbraref01_Bits := fun h ha => goodOf Go.Proofs.Tryz.func59 (by kernel_rfl) (by kernel_rfl) md ha h
theorem penumbraref09_material : GG F.penumbraref09_material B.penumbraref09_material := fun h ha => goodOf Go.Proofs.Tryz.func60 (by kernel_rfl) (by kernel_rfl) md ha h
theorem penumbraref08_Unit : GG F.penumbraref08_Unit B.penumbraref08_Unit := fun h ha => goodOf Go.Proofs.Tryz.func61 (by kernel_rfl) (by kernel_rfl) md ha h
theorem rat_one : GG F.rat_one B.rat_one := fun h ha => goodOf Go.Proofs.Tryz.func62 (by kernel_rfl) (by kernel_rfl) md ha h
theorem rat_times : GG F.rat_times B.rat_times := fun h ha => goodOf Go.Proofs.Tryz.func63 (by kernel_rfl) (by kernel_rfl) md ha h
theorem rat_Read : GG F.rat_Read B.rat_Read := fun h ha => goodOf Go.Proofs.Tryz.func64 (by kernel_rfl) (by kernel_rfl) md ha h
theorem penumbraref01_Same : GG F.penumbraref01_Same B.penumbraref01_Same := fun h ha => goodOf Go.Proofs.Tryz.func65 (by kernel_rfl) (by kernel_rfl) md ha h
theorem penumbraref05_Sub : GG F.penumbraref05_Sub B.penumbraref05_Sub := fun h ha => goodOf Go.Proofs.Tryz.func66 (by kernel_rfl) (by kernel_rfl) md ha h
theorem penumbraref08_Hit : GG F.penumbraref08_Hit B.penumbraref08_Hit := fun h ha => goodOf Go.Proofs.Tryz.func67 (by kernel_rfl) (by kernel_rfl) md ha h
theorem penumbraref05_Add : GG F.penumbraref05_Add B.penumbraref05_Add := fun h ha => goodOf Go.Proofs.Tryz.func68 (by kernel_rfl) (by kernel_rfl) md ha h
theorem penumbraref01_Zero : GG F.penumbraref01_Zero B.penumbraref01_Zero := fun h ha => goodOf Go.Proofs.Tryz.func69 (by kernel_rfl) (by kernel_rfl) md ha h
theorem penumbraref03_Add : GG F.penumbraref03_Add B.penumbraref03_Add := fun h ha => goodOf Go.Proofs.Tryz.func70 (by kernel_rfl) (by kernel_rfl) md ha h
theorem penumbraref05_Cross : GG F.penumbraref05_Cross B.penumbraref05_Cross := fun h ha => goodOf Go.Proofs.Tryz.func71 (by kernel_rfl) (by kernel_rfl) md ha h
theorem penumbraref08_None : GG F.penumbraref08_None B.penumbraref08_None := fun h ha => goodOf Go.Proofs.Tryz.func72 (by kernel_rfl) (by kernel_rfl) md ha h
theorem penumbraref03_Cmp : GG F.penumbraref03_Cmp B.penumbraref03_Cmp := fun h ha => goodOf Go.Proofs.Tryz.func73 (by kernel_rfl) (by kernel_rfl) md ha h
theorem penumbraref05_Scale : GG F.penumbraref05_Scale B.penumbraref05_Scale := fun h ha => goodOf Go.Proofs.Tryz.func74 (by kernel_rfl) (by kernel_rfl) md ha h
theorem penumbraref03_Read : GG F.penumbraref03_Read B.penumbraref03_Read := fun h ha => goodOf Go.Proofs.Tryz.func75 (by kernel_rfl) (by kernel_rfl) md ha h
theorem rat_Sub : GG F.rat_Sub B.rat_Sub := fun h ha => goodOf Go.Proofs.Tryz.func76 (by kernel_rfl) (by kernel_rfl) md ha h
theorem vec_Sum : GG F.vec_Sum B.vec_Sum := fun h ha => goodOf Go.Proofs.Tryz.func77 (by kernel_rfl) (by kernel_rfl) md ha h
theorem vec_minor : GG F.vec_minor B.vec_minor := fun h ha => goodOf Go.Proofs.Tryz.func78 (by kernel_rfl) (by kernel_rfl) md ha h
theorem penumbraref03_Zero : GG F.penumbraref03_Zero B.penumbraref03_Zero := fun h ha => goodOf Go.Proofs.Tryz.func79 (by kernel_rfl) (by kernel_rfl) md ha h
theorem nat_Bits : GG F.nat_Bits B.nat_Bits := fun h ha => goodOf Go.Proofs.Tryz.func80 (by kernel_rfl) (by kernel_rfl) md ha h
theorem rat_Sum : GG F.rat_Sum B.rat_Sum := fun h ha => goodOf Go.Proofs.Tryz.func81 (by kernel_rfl) (by kernel_rfl) md ha h
theorem rat_made : GG F.rat_made B.rat_made := fun h ha => goodOf Go.Proofs.Tryz.func82 (by kernel_rfl) (by kernel_rfl) md ha h
theorem rat_size : GG F.rat_size B.rat_size := fun h ha => goodOf Go.Proofs.Tryz.func83 (by kernel_rfl) (by kernel_rfl) md ha h
theorem tri_sides : GG F.tri_sides B.tri_sides := fun h ha => goodOf Go.Proofs.Tryz.func84 (by kernel_rfl) (by kernel_rfl) md ha h
theorem rat_Div : GG F.rat_Div B.rat_Div := fun h ha => goodOf Go.Proofs.Tryz.func85 (by kernel_rfl) (by kernel_rfl) md ha h
theorem affine_Identity : GG F.affine_Identity B.affine_Identity := fun h ha => goodOf Go.Proofs.Tryz.func86 (by kernel_rfl) (by kernel_rfl) md ha h
theorem affine_cofactors : GG F.affine_cofactors B.affine_cofactors := fun h ha => goodOf Go.Proofs.Tryz.func87 (by kernel_rfl) (by kernel_rfl) md ha h
theorem scene_Check : GG F.scene_Check B.scene_Check := fun h ha => goodOf Go.Proofs.Tryz.func88 (by kernel_rfl) (by kernel_rfl) md ha h
theorem tri_Unit : GG F.tri_Unit B.tri_Unit := fun h ha => goodOf Go.Proofs.Tryz.func89 (by kernel_rfl) (by kernel_rfl) md ha h
theorem bvh_Build : GG F.bvh_Build B.bvh_Build := fun h ha => goodOf Go.Proofs.Tryz.func90 (by kernel_rfl) (by kernel_rfl) md ha h
theorem trace_Nearest : GG F.trace_Nearest B.trace_Nearest := fun h ha => goodOf Go.Proofs.Tryz.func91 (by kernel_rfl) (by kernel_rfl) md ha h
theorem tri_At : GG F.tri_At B.tri_At := fun h ha => goodOf Go.Proofs.Tryz.func92 (by kernel_rfl) (by kernel_rfl) md ha h
theorem P_ready_Scene_Bend {args : List V} {bs bs' : List Blk} {r : V} (h : ∀ C C2, CC C → CC2 C2 → wpF2 Ω ⟨tt, C, C2, md, bs.length, ro⟩ B.P_ready_Scene_Bend args bs (fun x b => x = r ∧ b = bs')) (hb : bs.length ≤ 1000 := by decide) (ha : args.length ≤ (B.P_ready_Scene_Bend).ntmps := by exact of_decide_eq_true rfl) : Good P F.P_ready_Scene_Bend args bs r bs' := goodOf2 Go.Proofs.Tryz.func93 (by kernel_rfl) (by kernel_rfl) md hb ha h
theorem P_ready_Scene_Mat {args : List V} {bs bs' : List Blk} {r : V} (h : ∀ C C2, CC C → CC2 C2 → wpF2 Ω ⟨tt, C, C2, md, bs.length, ro⟩ B.P_ready_Scene_Mat args bs (fun x b => x = r ∧ b = bs')) (hb : bs.length ≤ 1000 := by decide) (ha : args.length ≤ (B.P_ready_Scene_Mat).ntmps := by exact of_decide_eq_true rfl) : Good P F.P_ready_Scene_Mat args bs r bs' := goodOf2 Go.Proofs.Tryz.func94 (by kernel_rfl) (by kernel_rfl) md hb ha h
theorem affine_Stretch : GG F.affine_Stretch B.affine_Stretch := fun h ha => goodOf Go.Proofs.Tryz.func95 (by kernel_rfl) (by kernel_rfl) md ha h
theorem affine_Then : GG F.affine_Then B.affine_Then := fun h ha => goodOf Go.Proofs.Tryz.func96 (by kernel_rfl) (by kernel_rfl) md ha h
theorem penumbraref09_Eta : GG F.penumbraref09_Eta B.penumbraref09_Eta := fun h ha => goodOf Go.Proofs.Tryz.func97 (by kernel_rfl) (by kernel_rfl) md ha h
theorem penumbraref01_Mul : GG F.penumbraref01_Mul B.penumbraref01_Mul := fun h ha => goodOf Go.Proofs.Tryz.func98 (by kernel_rfl) (by kernel_rfl) md ha h
theorem penumbraref07_Told : GG F.penumbraref07_Told B.penumbraref07_Told := fun h ha => goodOf Go.Proofs.Tryz.func99 (by kernel_rfl) (by kernel_rfl) md ha h
theorem penumbraref07_stretched : GG F.penumbraref07_stretched B.penumbraref07_stretched := fun h ha => goodOf Go.Proofs.Tryz.func100 (by kernel_rfl) (by kernel_rfl) md ha h
theorem penumbraref07_Apply : GG F.penumbraref07_Apply B.penumbraref07_Apply := fun h ha => goodOf Go.Proofs.Tryz.func101 (by kernel_rfl) (by kernel_rfl) md ha h
theorem penumbraref03_Div : GG F.penumbraref03_Div B.penumbraref03_Div := fun h ha => goodOf Go.Proofs.Tryz.func102 (by kernel_rfl) (by kernel_rfl) md ha h
theorem penumbraref09_Parse : GG F.penumbraref09_Parse B.penumbraref09_Parse := fun h ha => goodOf Go.Proofs.Tryz.func103 (by kernel_rfl) (by kernel_rfl) md ha h
theorem penumbraref03_abs : GG F.penumbraref03_abs B.penumbraref03_abs := fun h ha => goodOf Go.Proofs.Tryz.func104 (by kernel_rfl) (by kernel_rfl) md ha h
theorem penumbraref01_Norm : GG F.penumbraref01_Norm B.penumbraref01_Norm := fun h ha => goodOf Go.Proofs.Tryz.func105 (by kernel_rfl) (by kernel_rfl) md ha h
theorem penumbraref05_Unit : GG F.penumbraref05_Unit B.penumbraref05_Unit := fun h ha => goodOf Go.Proofs.Tryz.func106 (by kernel_rfl) (by kernel_rfl) md ha h
theorem nat_Mul : GG F.nat_Mul B.nat_Mul := fun h ha => goodOf Go.Proofs.Tryz.func107 (by kernel_rfl) (by kernel_rfl) md ha h
theorem penumbraref03_Sub : GG F.penumbraref03_Sub B.penumbraref03_Sub := fun h ha => goodOf Go.Proofs.Tryz.func108 (by kernel_rfl) (by kernel_rfl) md ha h
theorem penumbraref01_Cmp : GG F.penumbraref01_Cmp B.penumbraref01_Cmp := fun h ha => goodOf Go.Proofs.Tryz.func109 (by kernel_rfl) (by kernel_rfl) md ha h
theorem penumbraref01_Add : GG F.penumbraref01_Add B.penumbraref01_Add := fun h ha => goodOf Go.Proofs.Tryz.func110 (by kernel_rfl) (by kernel_rfl) md ha h
theorem penumbraref01_Sub : GG F.penumbraref01_Sub B.penumbraref01_Sub := fun h ha => goodOf Go.Proofs.Tryz.func111 (by kernel_rfl) (by kernel_rfl) md ha h
theorem penumbraref02_Gcd : GG F.penumbraref02_Gcd B.penumbraref02_Gcd := fun h ha => goodOf Go.Proofs.Tryz.func112 (by kernel_rfl) (by kernel_rfl) md ha h
theorem penumbraref01_DivMod : GG F.penumbraref01_DivMod B.penumbraref01_DivMod := fun h ha => goodOf Go.Proofs.Tryz.func113 (by kernel_rfl) (by kernel_rfl) md ha h
theorem rat_plus : GG F.rat_plus B.rat_plus := fun h ha => goodOf Go.Proofs.Tryz.func114 (by kernel_rfl) (by kernel_rfl) md ha h
theorem nat_trim : GG F.nat_trim B.nat_trim := fun h ha => goodOf Go.Proofs.Tryz.func115 (by kernel_rfl) (by kernel_rfl) md ha h
theorem math_bits_LeadingZeros32 : GG F.math_bits_LeadingZeros32 B.math_bits_LeadingZeros32 := fun h ha => goodOf Go.Proofs.Tryz.func116 (by kernel_rfl) (by kernel_rfl) md ha h
theorem nat_Norm : GG F.nat_Norm B.nat_Norm := fun h ha => goodOf Go.Proofs.Tryz.func117 (by kernel_rfl) (by kernel_rfl) md ha h
theorem root_Gcd : GG F.root_Gcd B.root_Gcd := fun h ha => goodOf Go.Proofs.Tryz.func118 (by kernel_rfl) (by kernel_rfl) md ha h
theorem nat_DivMod : GG F.nat_DivMod B.nat_DivMod := fun h ha => goodOf Go.Proofs.Tryz.func119 (by kernel_rfl) (by kernel_rfl) md ha h
theorem nat_Of : GG F.nat_Of B.nat_Of := fun h ha => goodOf Go.Proofs.Tryz.func120 (by kernel_rfl) (by kernel_rfl) md ha h
theorem scene_sizes : GG F.scene_sizes B.scene_sizes := fun h ha => goodOf Go.Proofs.Tryz.func121 (by kernel_rfl) (by kernel_rfl) md ha h
theorem scene_material : GG F.scene_material B.scene_material := fun h ha => goodOf Go.Proofs.Tryz.func122 (by kernel_rfl) (by kernel_rfl) md ha h
theorem rat_Same : GG F.rat_Same B.rat_Same := fun h ha => goodOf Go.Proofs.Tryz.func123 (by kernel_rfl) (by kernel_rfl) md ha h
theorem vec_Unit : GG F.vec_Unit B.vec_Unit := fun h ha => goodOf Go.Proofs.Tryz.func124 (by kernel_rfl) (by kernel_rfl) md ha h
theorem bvh_around : GG F.bvh_around B.bvh_around := fun h ha => goodOf Go.Proofs.Tryz.func125 (by kernel_rfl) (by kernel_rfl) md ha h
theorem P_bvh_builder_node {args : List V} {bs bs' : List Blk} {r : V} (h : ∀ C C2, CC C → CC2 C2 → wpF2 Ω ⟨tt, C, C2, md, bs.length, ro⟩ B.P_bvh_builder_node args bs (fun x b => x = r ∧ b = bs')) (hb : bs.length ≤ 1000 := by decide) (ha : args.length ≤ (B.P_bvh_builder_node).ntmps := by exact of_decide_eq_true rfl) : Good P F.P_bvh_builder_node args bs r bs' := goodOf2 Go.Proofs.Tryz.func126 (by kernel_rfl) (by kernel_rfl) md hb ha h
theorem P_trace_walker_node {args : List V} {bs bs' : List Blk} {r : V} (h : ∀ C C2, CC C → CC2 C2 → wpF2 Ω ⟨tt, C, C2, md, bs.length, ro⟩ B.P_trace_walker_node args bs (fun x b => x = r ∧ b = bs')) (hb : bs.length ≤ 1000 := by decide) (ha : args.length ≤ (B.P_trace_walker_node).ntmps := by exact of_decide_eq_true rfl) : Good P F.P_trace_walker_node args bs r bs' := goodOf2 Go.Proofs.Tryz.func127 (by kernel_rfl) (by kernel_rfl) md hb ha h
theorem scene_Eta : GG F.scene_Eta B.scene_Eta := fun h ha => goodOf Go.Proofs.Tryz.func128 (by kernel_rfl) (by kernel_rfl) md ha h
theorem rat_Neg : GG F.rat_Neg B.rat_Neg := fun h ha => goodOf Go.Proofs.Tryz.func129 (by kernel_rfl) (by kernel_rfl) md ha h
theorem affine_columns : GG F.affine_columns B.affine_columns := fun h ha => goodOf Go.Proofs.Tryz.func130 (by kernel_rfl) (by kernel_rfl) md ha h
theorem affine_Then_1 {args : List V} {bs bs' : List Blk} {r : V} (h : ∀ C C2, CC C → CC2 C2 → wpF2 Ω ⟨tt, C, C2, md, bs.length, ro⟩ B.affine_Then_1 args bs (fun x b => x = r ∧ b = bs')) (hb : bs.length ≤ 1000 := by decide) (ha : args.length ≤ (B.affine_Then_1).ntmps := by exact of_decide_eq_true rfl) : Good P F.affine_Then_1 args bs r bs' := goodOf2 Go.Proofs.Tryz.func131 (by kernel_rfl) (by kernel_rfl) md hb ha h
theorem penumbraref09_Lines : GG F.penumbraref09_Lines B.penumbraref09_Lines := fun h ha => goodOf Go.Proofs.Tryz.func132 (by kernel_rfl) (by kernel_rfl) md ha h
theorem penumbraref09_Words : GG F.penumbraref09_Words B.penumbraref09_Words := fun h ha => goodOf Go.Proofs.Tryz.func133 (by kernel_rfl) (by kernel_rfl) md ha h
theorem penumbraref09_line {args : List V} {bs bs' : List Blk} {r : V} (h : ∀ C C2, CC C → CC2 C2 → wpF2 Ω ⟨tt, C, C2, md, bs.length, ro⟩ B.penumbraref09_line args bs (fun x b => x = r ∧ b = bs')) (hb : bs.length ≤ 1000 := by decide) (ha : args.length ≤ (B.penumbraref09_line).ntmps := by exact of_decide_eq_true rfl) : Good P F.penumbraref09_line args bs r bs' := goodOf2 Go.Proofs.Tryz.func134 (by kernel_rfl) (by kernel_rfl) md hb ha h
theorem penumbraref01_Of : GG F.penumbraref01_Of B.penumbraref01_Of := fun h ha => goodOf Go.Proofs.Tryz.func135 (by kernel_rfl) (by kernel_rfl) md ha h
theorem penumbraref03_Sqrt : GG F.penumbraref03_Sqrt B.penumbraref03_Sqrt := fun h ha => goodOf Go.Proofs.Tryz.func136 (by kernel_rfl) (by kernel_rfl) md ha h
theorem penumbraref03_Neg : GG F.penumbraref03_Neg B.penumbraref03_Neg := fun h ha => goodOf Go.Proofs.Tryz.func137 (by kernel_rfl) (by kernel_rfl) md ha h
theorem penumbraref01_limb : GG F.penumbraref01_limb B.penumbraref01_limb := fun h ha => goodOf Go.Proofs.Tryz.func138 (by kernel_rfl) (by kernel_rfl) md ha h
theorem penumbraref01_Double : GG F.penumbraref01_Double B.penumbraref01_Double := fun h ha => goodOf Go.Proofs.Tryz.func139 (by kernel_rfl) (by kernel_rfl) md ha h
theorem penumbraref01_at : GG F.penumbraref01_at B.penumbraref01_at := fun h ha => goodOf Go.Proofs.Tryz.func140 (by kernel_rfl) (by kernel_rfl) md ha h
theorem penumbraref01_Half : GG F.penumbraref01_Half B.penumbraref01_Half := fun h ha => goodOf Go.Proofs.Tryz.func141 (by kernel_rfl) (by kernel_rfl) md ha h
theorem rat_whole : GG F.rat_whole B.rat_whole := fun h ha => goodOf Go.Proofs.Tryz.func142 (by kernel_rfl) (by kernel_rfl) md ha h
theorem nat_Add : GG F.nat_Add B.nat_Add := fun h ha => goodOf Go.Proofs.Tryz.func143 (by kernel_rfl) (by kernel_rfl) md ha h
theorem nat_Sub : GG F.nat_Sub B.nat_Sub := fun h ha => goodOf Go.Proofs.Tryz.func144 (by kernel_rfl) (by kernel_rfl) md ha h
theorem math_bits_Len32 : GG F.math_bits_Len32 B.math_bits_Len32 := fun h ha => goodOf Go.Proofs.Tryz.func145 (by kernel_rfl) (by kernel_rfl) md ha h
theorem slices_Clone_L_uint32_uint32 : GG F.slices_Clone_L_uint32_uint32 B.slices_Clone_L_uint32_uint32 := fun h ha => goodOf Go.Proofs.Tryz.func146 (by kernel_rfl) (by kernel_rfl) md ha h
theorem nat_Cmp : GG F.nat_Cmp B.nat_Cmp := fun h ha => goodOf Go.Proofs.Tryz.func147 (by kernel_rfl) (by kernel_rfl) md ha h
theorem nat_small : GG F.nat_small B.nat_small := fun h ha => goodOf Go.Proofs.Tryz.func148 (by kernel_rfl) (by kernel_rfl) md ha h
theorem nat_long : GG F.nat_long B.nat_long := fun h ha => goodOf Go.Proofs.Tryz.func149 (by kernel_rfl) (by kernel_rfl) md ha h
theorem scene_fits : GG F.scene_fits B.scene_fits := fun h ha => goodOf Go.Proofs.Tryz.func150 (by kernel_rfl) (by kernel_rfl) md ha h
theorem scene_fit : GG F.scene_fit B.scene_fit := fun h ha => goodOf Go.Proofs.Tryz.func151 (by kernel_rfl) (by kernel_rfl) md ha h
theorem rat_Cmp : GG F.rat_Cmp B.rat_Cmp := fun h ha => goodOf Go.Proofs.Tryz.func152 (by kernel_rfl) (by kernel_rfl) md ha h
theorem rat_Sqrt : GG F.rat_Sqrt B.rat_Sqrt := fun h ha => goodOf Go.Proofs.Tryz.func153 (by kernel_rfl) (by kernel_rfl) md ha h
theorem boxes_Around : GG F.boxes_Around B.boxes_Around := fun h ha => goodOf Go.Proofs.Tryz.func154 (by kernel_rfl) (by kernel_rfl) md ha h
theorem boxes_Join : GG F.boxes_Join B.boxes_Join := fun h ha => goodOf Go.Proofs.Tryz.func155 (by kernel_rfl) (by kernel_rfl) md ha h
theorem P_bvh_builder_part {args : List V} {bs bs' : List Blk} {r : V} (h : ∀ C C2, CC C → CC2 C2 → wpF2 Ω ⟨tt, C, C2, md, bs.length, ro⟩ B.P_bvh_builder_part args bs (fun x b => x = r ∧ b = bs')) (hb : bs.length ≤ 1000 := by decide) (ha : args.length ≤ (B.P_bvh_builder_part).ntmps := by exact of_decide_eq_true rfl) : Good P F.P_bvh_builder_part args bs r bs' := goodOf2 Go.Proofs.Tryz.func156 (by kernel_rfl) (by kernel_rfl) md hb ha h
theorem P_bvh_builder_widest {args : List V} {bs bs' : List Blk} {r : V} (h : ∀ C C2, CC C → CC2 C2 → wpF2 Ω ⟨tt, C, C2, md, bs.length, ro⟩ B.P_bvh_builder_widest args bs (fun x b => x = r ∧ b = bs')) (hb : bs.length ≤ 1000 := by decide) (ha : args.length ≤ (B.P_bvh_builder_widest).ntmps := by exact of_decide_eq_true rfl) : Good P F.P_bvh_builder_widest args bs r bs' := goodOf2 Go.Proofs.Tryz.func157 (by kernel_rfl) (by kernel_rfl) md hb ha h
theorem boxes_Clip : GG F.boxes_Clip B.boxes_Clip := fun h ha => goodOf Go.Proofs.Tryz.func158 (by kernel_rfl) (by kernel_rfl) md ha h
theorem P_trace_walker_past {args : List V} {bs bs' : List Blk} {r : V} (h : ∀ C C2, CC C → CC2 C2 → wpF2 Ω ⟨tt, C, C2, md, bs.length, ro⟩ B.P_trace_walker_past args bs (fun x b => x = r ∧ b = bs')) (hb : bs.length ≤ 1000 := by decide) (ha : args.length ≤ (B.P_trace_walker_past).ntmps := by exact of_decide_eq_true rfl) : Good P F.P_trace_walker_past args bs r bs' := goodOf2 Go.Proofs.Tryz.func159 (by kernel_rfl) (by kernel_rfl) md hb ha h
theorem P_trace_walker_leaf {args : List V} {bs bs' : List Blk} {r : V} (h : ∀ C C2, CC C → CC2 C2 → wpF2 Ω ⟨tt, C, C2, md, bs.length, ro⟩ B.P_trace_walker_leaf args bs (fun x b => x = r ∧ b = bs')) (hb : bs.length ≤ 1000 := by decide) (ha : args.length ≤ (B.P_trace_walker_leaf).ntmps := by exact of_decide_eq_true rfl) : Good P F.P_trace_walker_leaf args bs r bs' := goodOf2 Go.Proofs.Tryz.func160 (by kernel_rfl) (by kernel_rfl) md hb ha h
theorem penumbraref09_place : GG F.penumbraref09_place B.penumbraref09_place := fun h ha => goodOf Go.Proofs.Tryz.func161 (by kernel_rfl) (by kernel_rfl) md ha h
theorem penumbraref09_numbers : GG F.penumbraref09_numbers B.penumbraref09_numbers := fun h ha => goodOf Go.Proofs.Tryz.func162 (by kernel_rfl) (by kernel_rfl) md ha h
theorem penumbraref09_whole : GG F.penumbraref09_whole B.penumbraref09_whole := fun h ha => goodOf Go.Proofs.Tryz.func163 (by kernel_rfl) (by kernel_rfl) md ha h
theorem penumbraref09_vec : GG F.penumbraref09_vec B.penumbraref09_vec := fun h ha => goodOf Go.Proofs.Tryz.func164 (by kernel_rfl) (by kernel_rfl) md ha h
theorem penumbraref02_Sqrt : GG F.penumbraref02_Sqrt B.penumbraref02_Sqrt := fun h ha => goodOf Go.Proofs.Tryz.func165 (by kernel_rfl) (by kernel_rfl) md ha h
theorem math_bits_Add32 : GG F.math_bits_Add32 B.math_bits_Add32 := fun h ha => goodOf Go.Proofs.Tryz.func166 (by kernel_rfl) (by kernel_rfl) md ha h
theorem math_bits_Sub32 : GG F.math_bits_Sub32 B.math_bits_Sub32 := fun h ha => goodOf Go.Proofs.Tryz.func167 (by kernel_rfl) (by kernel_rfl) md ha h
theorem math_bits_Div32 : GG F.math_bits_Div32 B.math_bits_Div32 := fun h ha => goodOf Go.Proofs.Tryz.func168 (by kernel_rfl) (by kernel_rfl) md ha h
theorem nat_Shl : GG F.nat_Shl B.nat_Shl := fun h ha => goodOf Go.Proofs.Tryz.func169 (by kernel_rfl) (by kernel_rfl) md ha h
theorem nat_less {args : List V} {bs bs' : List Blk} {r : V} (h : ∀ C C2, CC C → CC2 C2 → wpF2 Ω ⟨tt, C, C2, md, bs.length, ro⟩ B.nat_less args bs (fun x b => x = r ∧ b = bs')) (hb : bs.length ≤ 1000 := by decide) (ha : args.length ≤ (B.nat_less).ntmps := by exact of_decide_eq_true rfl) : Good P F.nat_less args bs r bs' := goodOf2 Go.Proofs.Tryz.func170 (by kernel_rfl) (by kernel_rfl) md hb ha h
theorem nat_back {args : List V} {bs bs' : List Blk} {r : V} (h : ∀ C C2, CC C → CC2 C2 → wpF2 Ω ⟨tt, C, C2, md, bs.length, ro⟩ B.nat_back args bs (fun x b => x = r ∧ b = bs')) (hb : bs.length ≤ 1000 := by decide) (ha : args.length ≤ (B.nat_back).ntmps := by exact of_decide_eq_true rfl) : Good P F.nat_back args bs r bs' := goodOf2 Go.Proofs.Tryz.func171 (by kernel_rfl) (by kernel_rfl) md hb ha h
theorem nat_shr : GG F.nat_shr B.nat_shr := fun h ha => goodOf Go.Proofs.Tryz.func172 (by kernel_rfl) (by kernel_rfl) md ha h
theorem rat_Check : GG F.rat_Check B.rat_Check := fun h ha => goodOf Go.Proofs.Tryz.func173 (by kernel_rfl) (by kernel_rfl) md ha h
theorem root_Sqrt : GG F.root_Sqrt B.root_Sqrt := fun h ha => goodOf Go.Proofs.Tryz.func174 (by kernel_rfl) (by kernel_rfl) md ha h
theorem boxes_least : GG F.boxes_least B.boxes_least := fun h ha => goodOf Go.Proofs.Tryz.func175 (by kernel_rfl) (by kernel_rfl) md ha h
theorem boxes_most : GG F.boxes_most B.boxes_most := fun h ha => goodOf Go.Proofs.Tryz.func176 (by kernel_rfl) (by kernel_rfl) md ha h
theorem P_bvh_builder_ahead {args : List V} {bs bs' : List Blk} {r : V} (h : ∀ C C2, CC C → CC2 C2 → wpF2 Ω ⟨tt, C, C2, md, bs.length, ro⟩ B.P_bvh_builder_ahead args bs (fun x b => x = r ∧ b = bs')) (hb : bs.length ≤ 1000 := by decide) (ha : args.length ≤ (B.P_bvh_builder_ahead).ntmps := by exact of_decide_eq_true rfl) : Good P F.P_bvh_builder_ahead args bs r bs' := goodOf2 Go.Proofs.Tryz.func177 (by kernel_rfl) (by kernel_rfl) md hb ha h
theorem bvh_axis : GG F.bvh_axis B.bvh_axis := fun h ha => goodOf Go.Proofs.Tryz.func178 (by kernel_rfl) (by kernel_rfl) md ha h
theorem boxes_axes : GG F.boxes_axes B.boxes_axes := fun h ha => goodOf Go.Proofs.Tryz.func179 (by kernel_rfl) (by kernel_rfl) md ha h
theorem tri_Hit : GG F.tri_Hit B.tri_Hit := fun h ha => goodOf Go.Proofs.Tryz.func180 (by kernel_rfl) (by kernel_rfl) md ha h
theorem penumbraref04_Parse : GG F.penumbraref04_Parse B.penumbraref04_Parse := fun h ha => goodOf Go.Proofs.Tryz.func181 (by kernel_rfl) (by kernel_rfl) md ha h
theorem slices_Equal_L_uint32_uint32 : GG F.slices_Equal_L_uint32_uint32 B.slices_Equal_L_uint32_uint32 := fun h ha => goodOf Go.Proofs.Tryz.func182 (by kernel_rfl) (by kernel_rfl) md ha h
theorem penumbraref04_Digits : GG F.penumbraref04_Digits B.penumbraref04_Digits := fun h ha => goodOf Go.Proofs.Tryz.func183 (by kernel_rfl) (by kernel_rfl) md ha h
theorem penumbraref04_Number : GG F.penumbraref04_Number B.penumbraref04_Number := fun h ha => goodOf Go.Proofs.Tryz.func184 (by kernel_rfl) (by kernel_rfl) md ha h
end G
theorem G2.nat_trim (md : FuncId → Bool) {args : List V} {bs bs' : List Blk} {r : V} (h : ∀ C C2, CC C → CC2 C2 → wpF2 Ω ⟨tt, C, C2, md, bs.length, ro⟩ B.nat_trim args bs (fun x b => x = r ∧ b = bs')) (hb : bs.length ≤ 1000 := by decide) (ha : args.length ≤ (B.nat_trim).ntmps := by exact of_decide_eq_true rfl) : Good P F.nat_trim args bs r bs' := goodOf2 Go.Proofs.Tryz.func115 (by kernel_rfl) (by kernel_rfl) md hb ha h
theorem G1.nat_long (md : FuncId → Bool) {args : List V} {r : V} (h : ∀ C C2, CC C → CC2 C2 → wpF Ω ⟨tt, C, C2, md, 0, ro⟩ B.nat_long args (fun x => x = r)) (ha : args.length ≤ (B.nat_long).ntmps := by exact of_decide_eq_true rfl) : Good P F.nat_long args [] r [] := goodOf Go.Proofs.Tryz.func149 (by kernel_rfl) (by kernel_rfl) md ha h
theorem G2.nat_Shl (md : FuncId → Bool) {args : List V} {bs bs' : List Blk} {r : V} (h : ∀ C C2, CC C → CC2 C2 → wpF2 Ω ⟨tt, C, C2, md, bs.length, ro⟩ B.nat_Shl args bs (fun x b => x = r ∧ b = bs')) (hb : bs.length ≤ 1000 := by decide) (ha : args.length ≤ (B.nat_Shl).ntmps := by exact of_decide_eq_true rfl) : Good P F.nat_Shl args bs r bs' := goodOf2 Go.Proofs.Tryz.func169 (by kernel_rfl) (by kernel_rfl) md hb ha h
end Go.K.S
end
section
namespace Go.K
open Go
theorem LoopG.intro {m : Nat} {body : St → (X → St → Prop) → Prop} {s : St} {Q : X → St → Prop} {σ : Type} (ks ids : List Nat) (vs : σ → List V) (bs : σ → List Blk) (I : σ → Prop) (μ : σ → Nat) (x0 : σ) (olds : List Nat)
  (h0 : I x0) (hk : kept m ks ids olds s fun a b => a = vs x0 ∧ b = bs x0) (hr : ∀ x, I x → body (stOf ks (vs x) ids (bs x)) fun e s' => match e with
    | .normal => ∃ y olds, I y ∧ μ y < μ x ∧ kept m ks ids olds s' fun a b => a = vs y ∧ b = bs y
    | e => Q e s') : LoopG m body s Q := ⟨σ, ks, fun _ => ids, vs, bs, I, μ, ⟨[], x0, olds, h0, hk⟩, hr⟩
theorem LoopG.introB {m : Nat} {body : St → (X → St → Prop) → Prop} {s : St} {Q : X → St → Prop} {σ : Type} (bl : List Bth) (ks ids : List Nat) (vs : σ → List V) (bs : σ → List Blk) (I : σ → Prop) (μ : σ → Nat) (x0 : σ) (olds : List Nat)
  (h0 : I x0) (hk : keptB bl m ks ids olds s fun a b => a = vs x0 ∧ b = bs x0) (hr : ∀ x, I x → body (stOf ks (vs x) ids (bs x)) fun e s' => match e with
    | .normal => ∃ y olds, I y ∧ μ y < μ x ∧ kept m ks ids olds s' fun a b => a = vs y ∧ b = bs y
    | e => Q e s') : LoopG m body s Q := ⟨σ, ks, fun _ => ids, vs, bs, I, μ, ⟨bl, x0, olds, h0, hk⟩, hr⟩
theorem LoopG.intro2 {m : Nat} {body : St → (X → St → Prop) → Prop} {s : St} {Q : X → St → Prop} {σ : Type} (ks : List Nat) (ids : σ → List Nat) (vs : σ → List V) (bs : σ → List Blk) (I : σ → Prop) (μ : σ → Nat) (x0 : σ) (olds : List Nat)
  (h0 : I x0) (hk : kept m ks (ids x0) olds s fun a b => a = vs x0 ∧ b = bs x0) (hr : ∀ x, I x → body (stOf ks (vs x) (ids x) (bs x)) fun e s' => match e with
    | .normal => ∃ y olds, I y ∧ μ y < μ x ∧ kept m ks (ids y) olds s' fun a b => a = vs y ∧ b = bs y
    | e => Q e s') : LoopG m body s Q := ⟨σ, ks, ids, vs, bs, I, μ, ⟨[], x0, olds, h0, hk⟩, hr⟩
end Go.K
end
section
namespace Go.K
open Go
def lim (l : List Nat) : Prop := ∀ x ∈ l, x < 4294967296
@[simp] theorem nv_nil : nv [] = 0 := rfl
@[simp] theorem nv_cons (x : Nat) (l : List Nat) : nv (x :: l) = x + 4294967296 * nv l := rfl
theorem lim_nil : lim [] := fun _ h => by cases h
theorem lim_cons {x : Nat} {l : List Nat} : lim (x :: l) ↔ x < 4294967296 ∧ lim l := by simp [lim]
theorem lim_append {a b : List Nat} : lim (a ++ b) ↔ lim a ∧ lim b := by
 simp only [lim, List.mem_append]
 exact ⟨fun h => ⟨fun x q => h x (.inl q), fun x q => h x (.inr q)⟩, fun h x q => q.elim (h.1 x) (h.2 x)⟩
theorem lim_take {l : List Nat} (h : lim l) (n : Nat) : lim (l.take n) := fun x q => h x (List.mem_of_mem_take q)
theorem lim_drop {l : List Nat} (h : lim l) (n : Nat) : lim (l.drop n) := fun x q => h x (List.mem_of_mem_drop q)
theorem lim_get {l : List Nat} (h : lim l) {k x : Nat} (hx : l[k]? = some x) : x < 4294967296 := h x (List.mem_of_getElem? hx)
theorem lim_getElem {l : List Nat} (h : lim l) {k : Nat} (hk : k < l.length) : l[k] < 4294967296 := h _ (List.getElem_mem hk)
theorem lim_set {l : List Nat} (h : lim l) (k : Nat) {x : Nat} (hx : x < 4294967296) : lim (l.set k x) := fun y q => by
 rcases List.mem_or_eq_of_mem_set q with q | q
 ·exact h y q
 ·omega
theorem lim_rep (n : Nat) : lim (List.replicate n 0) := fun x q => by rw [(List.mem_replicate.1 q).2]; omega
theorem nv_append (a b : List Nat) : nv (a ++ b) = nv a + 4294967296 ^ a.length * nv b := by
 induction a with
 | nil => simp
 | cons x a ih =>
  simp only [List.cons_append, nv_cons, List.length_cons, ih, Nat.mul_add, Nat.pow_succ]
  rw [Nat.add_assoc]
  congr 2
  rw [Nat.mul_comm (4294967296 ^ a.length) 4294967296, Nat.mul_assoc]
theorem nv_rep (n : Nat) : nv (List.replicate n 0) = 0 := by
 induction n with
 | zero => rfl
 | succ n ih => rw [List.replicate_succ, nv_cons, ih]
theorem nv_lt {l : List Nat} (h : lim l) : nv l < 4294967296 ^ l.length := by
 induction l with
 | nil => simp
 | cons x l ih =>
  rw [lim_cons] at h
  have := ih h.2
  rw [nv_cons, List.length_cons, Nat.pow_succ]
  omega
theorem nv_snoc (l : List Nat) (x : Nat) : nv (l ++ [x]) = nv l + 4294967296 ^ l.length * x := by rw [nv_append]; simp
theorem nv_take_succ {l : List Nat} {k x : Nat} (h : l[k]? = some x) : nv (l.take (k + 1)) = nv (l.take k) + 4294967296 ^ k * x := by
 have hk := (List.getElem?_eq_some_iff.1 h).1
 rw [List.take_add_one, h, Option.toList_some, nv_snoc, List.length_take, Nat.min_eq_left (by omega)]
theorem cn_zero : Ψ .cn 0 = [] := by rw [p_cn]; unfold cn; rfl
theorem cn_pos {n : Nat} (h : 0 < n) : Ψ .cn n = n % 4294967296 :: Ψ .cn (n / 4294967296) := by
 rw [p_cn, cn]; rw [dif_neg (by omega)]; rfl
theorem nv_cn (n : Nat) : nv (Ψ .cn n) = n := by
 induction n using Nat.strongRecOn with
 | ind n ih =>
  rcases Nat.eq_zero_or_pos n with h | h
  ·subst h; rw [cn_zero]; rfl
  ·rw [cn_pos h, nv_cons, ih _ (by omega)]; omega
theorem lim_cn (n : Nat) : lim (Ψ .cn n) := by
 induction n using Nat.strongRecOn with
 | ind n ih =>
  rcases Nat.eq_zero_or_pos n with h | h
  ·subst h; rw [cn_zero]; exact lim_nil
  ·rw [cn_pos h, lim_cons]; exact ⟨by omega, ih _ (by omega)⟩
theorem cn_eq_nil {n : Nat} : Ψ .cn n = [] ↔ n = 0 := by
 constructor
 ·intro h; rw [← nv_cn n, h]; rfl
 ·rintro rfl; exact cn_zero
def cano (l : List Nat) : Prop := ∀ x, l.getLast? = some x → x ≠ 0
theorem cano_nil : cano [] := fun x h => by cases h
theorem cano_cons {x y : Nat} {l : List Nat} : cano (x :: y :: l) ↔ cano (y :: l) := by simp [cano]
theorem cn_cano : ∀ (l : List Nat), lim l → cano l → Ψ .cn (nv l) = l
 | [], _, _ => cn_zero
 | [x], h, c => by
  have h0 := c x rfl
  rw [lim_cons] at h
  rw [nv_cons, nv_nil, cn_pos (by omega)]
  have : (x + 4294967296 * 0) / 4294967296 = 0 := by omega
  rw [this, cn_zero]
  congr 1; omega
 | x :: y :: l, h, c => by
  rw [cano_cons] at c
  rw [lim_cons] at h
  have ih := cn_cano (y :: l) h.2 c
  have hp : 0 < nv (y :: l) := by
   rcases Nat.eq_zero_or_pos (nv (y :: l)) with q | q
   ·rw [q, cn_zero] at ih; cases ih
   ·exact q
  generalize y :: l = r at *
  rw [nv_cons, cn_pos (by omega)]
  have h1 : (x + 4294967296 * nv r) % 4294967296 = x := by omega
  have h2 : (x + 4294967296 * nv r) / 4294967296 = nv r := by omega
  rw [h1, h2, ih]
theorem cano_cn (n : Nat) : cano (Ψ .cn n) := by
 induction n using Nat.strongRecOn with
 | ind n ih =>
  rcases Nat.eq_zero_or_pos n with h | h
  ·subst h; rw [cn_zero]; exact cano_nil
  ·rw [cn_pos h]
   have := ih (n / 4294967296) (by omega)
   cases hc : Ψ .cn (n / 4294967296) with
   | nil =>
    have := cn_eq_nil.1 hc
    intro x hx
    have hx' : n % 4294967296 = x := by simpa [wz] using hx
    omega
   | cons y l => rw [cano_cons, ← hc]; exact this
theorem len_cn {n k : Nat} : (Ψ .cn n).length ≤ k ↔ n < 4294967296 ^ k := by
 induction k generalizing n with
 | zero => rw [Nat.pow_zero, Nat.le_zero, List.length_eq_zero_iff, cn_eq_nil]; omega
 | succ k ih =>
  rcases Nat.eq_zero_or_pos n with h | h
  ·subst h
   rw [cn_zero]
   have : 0 < 4294967296 ^ (k + 1) := Nat.pow_pos (by omega)
   simp [this]
  ·rw [cn_pos h, List.length_cons, Nat.add_le_add_iff_right, ih, Nat.pow_succ]
   exact Nat.div_lt_iff_lt_mul (by omega)
theorem len_cn_nv {l : List Nat} (h : lim l) : (Ψ .cn (nv l)).length ≤ l.length := len_cn.2 (nv_lt h)
theorem cn_ge {n k : Nat} (h : (Ψ .cn n).length = k + 1) : 4294967296 ^ k ≤ n := by
 have := (len_cn (n := n) (k := k)).2
 rcases Nat.lt_or_ge n (4294967296 ^ k) with q | q
 ·have := this q; omega
 ·exact q
theorem cn_lt {n : Nat} : n < 4294967296 ^ (Ψ .cn n).length := len_cn.1 (Nat.le_refl _)
theorem sget_lims (l : List Nat) (k : Nat) : Ω .sget (Ψ .lims l) k = (l[k]?).map fun (x : Nat) => (D.i .u32 (Ω .ci x) : D) := by simp [w_sget, p_lims, w_ci]
theorem ssub_lims (l : List Nat) (a n : Nat) : Ω .ssub (Ψ .lims l) a (Ω .nsub n a) = Ψ .lims ((l.drop a).take (n - a)) := by simp [w_ssub, p_lims, w_ci, w_nsub, List.map_drop, List.map_take]
theorem ssub_lims' (l : List Nat) (a n : Nat) : Ω .ssub (Ψ .lims l) a n = Ψ .lims ((l.drop a).take n) := by simp [w_ssub, p_lims, w_ci, List.map_drop, List.map_take]
theorem sset_lims (l : List Nat) (k x : Nat) : Ω .sset (Ψ .lims l) k (.i .u32 (Ω .ci x)) = Ψ .lims (l.set k x) := by simp [w_sset, p_lims, w_ci, List.map_set]
theorem scat_lims (a b : List Nat) : Ω .scat (Ψ .lims a) (Ψ .lims b) = Ψ .lims (a ++ b) := by simp [w_scat, p_lims, w_ci]
theorem srep_lims (n : Nat) : Ω .srep n (.i .u32 0) = Ψ .lims (List.replicate n 0) := by simp [w_srep, p_lims, w_ci, wz]
theorem lims_nil : ([] : List D) = Ψ .lims [] := rfl
theorem lims_cons (x : Nat) (l : List Nat) : D.i .u32 (Ω .ci x) :: Ψ .lims l = Ψ .lims (x :: l) := by simp [p_lims, w_ci]
theorem lims_cells (l : List Nat) : ∀ x ∈ Ψ .lims l, x.cells.length = 1 := by
 intro x h
 simp only [p_lims, w_ci, List.mem_map] at h
 obtain ⟨a, _, rfl⟩ := h
 rfl
theorem wrap64 {n : Int} (h : -9223372036854775808 ≤ n) (h' : n ≤ 9223372036854775807) : Ω .wrap .i64 n = n := by
 have e : Ω .wrap .i64 n = if decide (n % 18446744073709551616 ≥ 9223372036854775808) = true then n % 18446744073709551616 - 18446744073709551616 else n % 18446744073709551616 := rfl
 rw [e]
 by_cases c : n % 18446744073709551616 ≥ 9223372036854775808
 ·rw [if_pos (by simpa using c)]; omega
 ·rw [if_neg (by simpa using c)]; omega
theorem wrapu32 (n : Int) : Ω .wrap .u32 n = n % 4294967296 := by
 rw [w_wrap]
 simp only [IntKind.wrap, IntKind.bits, IntKind.signed, Bool.false_and]
 rfl
theorem wrapu64 (n : Int) : Ω .wrap .u64 n = n % 18446744073709551616 := by
 rw [w_wrap]
 simp only [IntKind.wrap, IntKind.bits, IntKind.signed, Bool.false_and]
 rfl
theorem wrapu32_nat (n : Nat) : Ω .wrap .u32 (n : Int) = ((n % 4294967296 : Nat) : Int) := by rw [wrapu32]; omega
theorem wrapu64_nat (n : Nat) : Ω .wrap .u64 (n : Int) = ((n % 18446744073709551616 : Nat) : Int) := by rw [wrapu64]; omega
theorem ci_nonneg (a : Nat) : 0 ≤ Ω .ci a := by simp only [wz]; omega
theorem toNat_ci (n : Nat) : (Ω .ci n).toNat = n := rfl
theorem wrap_ci {n : Nat} (h : n ≤ 9223372036854775807) : Ω .wrap .i64 (Ω .ci n) = Ω .ci n := wrap64 (by simp only [wz]; omega) (by simp only [wz]; omega)
theorem wrap_pred {n : Nat} (h0 : 0 < n) (h : n ≤ 9223372036854775807) : Ω .wrap .i64 (Ω .ci n - 1) = Ω .ci (n - 1) := by
 rw [wrap64 (by simp only [wz]; omega) (by simp only [wz]; omega)]; simp only [wz]; omega
theorem wrap_succ {n : Nat} (h : n < 9223372036854775807) : Ω .wrap .i64 (Ω .ci n + 1) = Ω .ci (n + 1) := by
 rw [wrap64 (by simp only [wz]; omega) (by simp only [wz]; omega)]; simp only [wz]; omega
theorem wrap_add {a b : Nat} (h : a + b ≤ 9223372036854775807) : Ω .wrap .i64 (Ω .ci a + Ω .ci b) = Ω .ci (a + b) := by
 rw [wrap64 (by simp only [wz]; omega) (by simp only [wz]; omega)]; simp only [wz]; omega
theorem wrap_sub {a b : Nat} (hb : b ≤ a) (h : a ≤ 9223372036854775807) : Ω .wrap .i64 (Ω .ci a - Ω .ci b) = Ω .ci (a - b) := by
 rw [wrap64 (by simp only [wz]; omega) (by simp only [wz]; omega)]; simp only [wz]; omega
theorem idx_lims {l : List Nat} {k : Int} {sz : Nat} {R : D → Prop} (kn v : Nat) (hk : k = Ω .ci kn) (hv : l[kn]? = some v) (hsz : 1 = sz) (h : R (.i .u32 (Ω .ci v))) :
  Ω .ile 0 k ∧ ∃ x, Ω .sget (Ψ .lims l) (Ω .tn k) = some x ∧ x.cells.length = sz ∧ R x := by
 subst hk
 refine ⟨by simp only [wz]; omega, .i .u32 (Ω .ci v), ?_, hsz, h⟩
 rw [tn_ci, sget_lims, hv]; rfl
theorem cano_take {l : List Nat} {n v : Nat} (hv : l[n]? = some v) (h0 : v ≠ 0) : cano (l.take (n + 1)) := by
 intro x hx
 rw [List.take_add_one, hv, Option.toList_some, List.getLast?_concat] at hx
 cases hx; exact h0
end Go.K
namespace Go.K
open Go
structure N (l : List Nat) : Prop where
 lim : lim l
 len : l.length < 1099511627776
theorem N.cn {l : List Nat} (h : N l) : N (Ψ .cn (nv l)) := ⟨lim_cn _, Nat.lt_of_le_of_lt (len_cn_nv h.lim) h.len⟩
theorem N_nil : N [] := ⟨lim_nil, by simp⟩
theorem nv_split (l : List Nat) (k : Nat) (hk : k ≤ l.length) : nv l = nv (l.take k) + 4294967296 ^ k * nv (l.drop k) := by
 have := nv_append (l.take k) (l.drop k)
 rw [List.take_append_drop, List.length_take, Nat.min_eq_left hk] at this
 exact this
theorem nv_drop {l : List Nat} {k v : Nat} (h : l[k]? = some v) : nv (l.drop k) = v + 4294967296 * nv (l.drop (k + 1)) := by
 obtain ⟨hk, rfl⟩ := List.getElem?_eq_some_iff.1 h
 rw [List.drop_eq_getElem_cons hk, nv_cons]
theorem nv_lt_of {x y : List Nat} {k u v : Nat} (hx : lim x) (hu : x[k]? = some u) (hv : y[k]? = some v) (hd : x.drop (k + 1) = y.drop (k + 1)) (h : u < v) : nv x < nv y := by
 have kx := (List.getElem?_eq_some_iff.1 hu).1
 have ky := (List.getElem?_eq_some_iff.1 hv).1
 rw [nv_split x k (by omega), nv_split y k (by omega), nv_drop hu, nv_drop hv, hd]
 have h1 : nv (x.take k) < 4294967296 ^ k := by
  have := nv_lt (lim_take hx k)
  rw [List.length_take, Nat.min_eq_left (by omega)] at this
  exact this
 generalize 4294967296 ^ k = M at *
 generalize nv (y.drop (k + 1)) = d
 have h2 := Nat.mul_le_mul_left M (show u + 4294967296 * d + 1 ≤ v + 4294967296 * d by omega)
 rw [Nat.mul_add, Nat.mul_one] at h2
 omega
theorem cn_len_lt {m n : Nat} (h : (Ψ .cn m).length < (Ψ .cn n).length) : m < n := by
 rcases Nat.lt_or_ge m n with q | q
 ·exact q
 ·have h1 : n < 4294967296 ^ (Ψ .cn m).length := Nat.lt_of_le_of_lt q cn_lt
  have := len_cn.2 h1
  omega
end Go.K
namespace Go.K
open Go
theorem nv_take_succ' (l : List Nat) (k : Nat) : nv (l.take (k + 1)) = nv (l.take k) + 4294967296 ^ k * l.getD k 0 := by
 rcases Nat.lt_or_ge k l.length with h | h
 ·rw [nv_take_succ (List.getElem?_eq_getElem h)]; simp [List.getD, h]
 ·rw [List.take_of_length_le h, List.take_of_length_le (by omega)]; simp [List.getD, h]
theorem getD_lt {l : List Nat} (h : lim l) (k : Nat) : l.getD k 0 < 4294967296 := by
 rcases Nat.lt_or_ge k l.length with q | q
 ·simp only [List.getD, List.getElem?_eq_getElem q, Option.getD_some]; exact lim_getElem h q
 ·simp [List.getD, q]
theorem add_step {M zv c X Y x y : Nat} (h : zv + M * c = X + Y) : zv + M * ((x + y + c) % 4294967296) + M * 4294967296 * ((x + y + c) / 4294967296) = (X + M * x) + (Y + M * y) := by
 have h1 := Nat.mod_add_div (x + y + c) 4294967296
 have h2 : M * ((x + y + c) % 4294967296) + M * 4294967296 * ((x + y + c) / 4294967296) = M * (x + y + c) := by
  rw [Nat.mul_assoc, ← Nat.mul_add, h1]
 rw [Nat.add_assoc, h2, Nat.mul_add, Nat.mul_add]
 omega
end Go.K
namespace Go.K
open Go
theorem scat_snoc (z : List Nat) (v : Nat) : Ω .scat (Ψ .lims z) [.i .u32 (Ω .ci v)] = Ψ .lims (z ++ [v]) := by simp [w_scat, p_lims, w_ci]
theorem cells_one (k : IntKind) (n : Int) : ∀ u, u ∈ [D.i k n] → u.cells.length = 1 := fun u h => by
 rw [List.mem_singleton.1 h]; rfl
end Go.K
namespace Go.K
open Go
theorem cmpI_neg {m n : Nat} : Ψ .cmpI m n < 0 ↔ m < n := by simp only [p_cmpI]; split <;> (try split) <;> omega
theorem cmpI_pos {m n : Nat} : Ψ .cmpI m n > 0 ↔ n < m := by simp only [p_cmpI]; split <;> (try split) <;> omega
theorem cmpI_zero {m n : Nat} : Ψ .cmpI m n = 0 ↔ m = n := by simp only [p_cmpI]; split <;> (try split) <;> omega
theorem cmpI_nonneg {m n : Nat} : 0 ≤ Ψ .cmpI m n ↔ n ≤ m := by simp only [p_cmpI]; split <;> (try split) <;> omega
theorem sub_step {M zv c X Y x y d c' : Nat} (h : zv + Y = X + M * c) (hd : d + y + c = x + 4294967296 * c') : zv + M * d + (Y + M * y) + 0 = X + M * x + M * 4294967296 * c' := by
 have h2 : M * (d + y + c) = M * (x + 4294967296 * c') := by rw [hd]
 rw [Nat.mul_add, Nat.mul_add, Nat.mul_add, ← Nat.mul_assoc] at h2
 omega
end Go.K
namespace Go.K
open Go
theorem nv_set {l : List Nat} {k u : Nat} (h : l[k]? = some u) (v : Nat) : nv (l.set k v) + 4294967296 ^ k * u = nv l + 4294967296 ^ k * v := by
 have hk := (List.getElem?_eq_some_iff.1 h).1
 have e1 := nv_split (l.set k v) k (by simp; omega)
 have e2 := nv_split l k (by omega)
 have e3 : (l.set k v)[k]? = some v := by simp [hk]
 rw [List.take_set_of_le (Nat.le_refl k), nv_drop e3, List.drop_set_of_lt (by omega : k < k + 1)] at e1
 rw [nv_drop h] at e2
 rw [e1, e2, Nat.mul_add, Nat.mul_add]
 omega
theorem own_lims {z : List Nat} {K : Int} {sz : Nat} {p : Prop} {R : D → Prop} (kn v : Nat) (hk : K = Ω .ci kn) (hv : z[kn]? = some v) (hsz : sz ≤ 1) (hp : p) (h : R (.i .u32 (Ω .ci v))) :
  Ω .ile 0 K ∧ Ω .ilt K (Ω .ci z.length) ∧ ∃ x, Ω .sget (Ψ .lims z) (Ω .tn K) = some x ∧ sz ≤ x.cells.length ∧ p ∧ R x := by
 subst hk
 have := (List.getElem?_eq_some_iff.1 hv).1
 refine ⟨ci_nonneg _, (by simp only [wz]; omega), .i .u32 (Ω .ci v), ?_, hsz, hp, h⟩
 rw [tn_ci, sget_lims, hv]; rfl
end Go.K
namespace Go.K
open Go
theorem nv_set_drop {l : List Nat} {k : Nat} (hk : k < l.length) (v : Nat) : nv ((l.set k v).drop k) = v + 4294967296 * nv (l.drop (k + 1)) := by
 have e3 : (l.set k v)[k]? = some v := by simp [hk]
 rw [nv_drop e3, List.drop_set_of_lt (by omega : k < k + 1)]
theorem small_step {Q b r u X : Nat} (h : Q * b + r = X) : ((r * 4294967296 + u) / b + 4294967296 * Q) * b + (r * 4294967296 + u) % b = u + 4294967296 * X := by
 have h1 := Nat.div_add_mod (r * 4294967296 + u) b
 rw [← h, Nat.add_mul, Nat.mul_add, Nat.mul_assoc, Nat.mul_comm _ b]
 omega
theorem divmod_unique {Q b r X : Nat} (h : Q * b + r = X) (hr : r < b) : X / b = Q ∧ X % b = r := by
 subst h
 refine ⟨?_, ?_⟩
 ·rw [Nat.mul_comm, Nat.mul_add_div (by omega), Nat.div_eq_of_lt hr, Nat.add_zero]
 ·rw [Nat.mul_comm, Nat.mul_add_mod, Nat.mod_eq_of_lt hr]
end Go.K
end
section
namespace Go.K.S
open Go Go.K
theorem trim_good (l : List Nat) (hl : lim l) (hb : l.length < 1099511627776) : Good P F.nat_trim [.d (dN Ψ l)] [] (.d (dN Ψ (Ψ .cn (nv l)))) [] := by
 refine G.nat_trim fun C C2 hC hC2 => ?_
 (generalize hΩ : Ω = ω, hΨ : Ψ = ψ; cbv <;> subst hΩ hΨ <;> try simp only [lits, true_and, not_u32, slen_nil, tn_ci, tn_zero, slen_lims, slen_dRs, slen_dVs, slen_dBs])
 refine LoopG.intro (σ := Nat) [0, 3] [] (fun n => [.d (dN Ψ l), .d (.i .i64 (Ω .ci n))]) (fun _ => []) (fun n => n ≤ l.length ∧ nv (l.take n) = nv l) (fun n => n) l.length [] ⟨Nat.le_refl _, by simp⟩ ⟨rfl, rfl, rfl⟩ ?_
 rintro n ⟨hn, he⟩
 (generalize hΩ : Ω = ω, hΨ : Ψ = ψ; cbv <;> subst hΩ hΨ <;> try simp only [lits, true_and, not_u32, slen_nil, tn_ci, tn_zero, slen_lims, slen_dRs, slen_dVs, slen_dBs])
 refine BrG.split (fun h => ?_) (fun h => ?_)
 ·(generalize hΩ : Ω = ω, hΨ : Ψ = ψ; cbv <;> subst hΩ hΨ <;> try simp only [lits, true_and, not_u32, slen_nil, tn_ci, tn_zero, slen_lims, slen_dRs, slen_dVs, slen_dBs])
  simp [wz] at h
  obtain ⟨v, hv⟩ : ∃ v, l[n - 1]? = some v := ⟨_, List.getElem?_eq_getElem (by omega)⟩
  refine idx_lims (n - 1) v (wrap_pred h (by omega)) hv rfl ?_
  (generalize hΩ : Ω = ω, hΨ : Ψ = ψ; cbv <;> subst hΩ hΨ <;> try simp only [lits, true_and, not_u32, slen_nil, tn_ci, tn_zero, slen_lims, slen_dRs, slen_dVs, slen_dBs])
  have hs := nv_take_succ hv
  have hn1 : n - 1 + 1 = n := by omega
  rw [hn1] at hs
  refine BrG.split (fun h => ?_) (fun h => ?_)
  ·(generalize hΩ : Ω = ω, hΨ : Ψ = ψ; cbv <;> subst hΩ hΨ <;> try simp only [lits, true_and, not_u32, slen_nil, tn_ci, tn_zero, slen_lims, slen_dRs, slen_dVs, slen_dBs])
   simp [wz] at h
   refine ⟨n - 1, [], ⟨by omega, by rw [h] at hs; omega⟩, by omega, rfl, ?_, rfl⟩
   rw [← wrap_pred (by omega) (by omega)]; rfl
  ·(generalize hΩ : Ω = ω, hΨ : Ψ = ψ; cbv <;> subst hΩ hΨ <;> try simp only [lits, true_and, not_u32, slen_nil, tn_ci, tn_zero, slen_lims, slen_dRs, slen_dVs, slen_dBs])
   simp [wz] at h
   have hc := cn_cano _ (lim_take hl n) (by rw [← hn1]; exact cano_take hv h)
   rw [he] at hc
   refine ⟨by simp only [wz]; omega, Int.le_refl _, by simp only [wz]; omega, fun _ => rfl, lims_cells l, ?_⟩
   rw [ssub_lims, List.drop_zero, Nat.sub_zero, hc]
 ·(generalize hΩ : Ω = ω, hΨ : Ψ = ψ; cbv <;> subst hΩ hΨ <;> try simp only [lits, true_and, not_u32, slen_nil, tn_ci, tn_zero, slen_lims, slen_dRs, slen_dVs, slen_dBs])
  simp [wz] at h
  subst h
  have h0 : nv l = 0 := by rw [← he]; rfl
  refine ⟨by simp only [wz]; omega, Int.le_refl _, by simp only [wz]; omega, fun _ => rfl, lims_cells l, ?_⟩
  rw [ssub_lims, h0, cn_zero]; rfl
end Go.K.S
end
section
namespace Go.K
open Go
theorem wrapu32_ci (n : Nat) : Ω .wrap .u32 (Ω .ci n) = Ω .ci (n % 4294967296) := by simp only [wz]; exact wrapu32_nat n
theorem wrapu64_ci (n : Nat) : Ω .wrap .u64 (Ω .ci n) = Ω .ci (n % 18446744073709551616) := by simp only [wz]; exact wrapu64_nat n
theorem wrapu8_ci (n : Nat) : Ω .wrap .u8 (Ω .ci n) = Ω .ci (n % 256) := by
 have e : ∀ n : Int, Ω .wrap .u8 n = n % 256 := fun n => by
  rw [w_wrap]
  simp only [IntKind.wrap, IntKind.bits, IntKind.signed, Bool.false_and]; rfl
 rw [e]; simp only [wz]; omega
theorem ci_add (a b : Nat) : Ω .ci a + Ω .ci b = Ω .ci (a + b) := by simp only [wz]; omega
theorem ci_mul (a b : Nat) : Ω .ci a * Ω .ci b = Ω .ci (a * b) := by simp only [wz]; exact (Int.natCast_mul a b).symm
theorem ci_sub {a b : Nat} (h : b ≤ a) : Ω .ci a - Ω .ci b = Ω .ci (a - b) := by simp only [wz]; omega
theorem ishr_ci (k : IntKind) (n m : Nat) (h : m ≤ k.bits) : Ω .ishr k (Ω .ci n) (Ω .ci m) = Ω .ci (n / 2 ^ m) := by
 simp only [w_ishr, toNat_ci, Nat.min_eq_left h]
 simp only [wz]
 rw [Int.fdiv_eq_ediv_of_nonneg _ (by exact Int.le_of_lt (Int.pow_pos (by omega)))]
 simp
theorem ishr_lit (k : IntKind) (n m : Nat) (h : m ≤ k.bits) : Ω .ishr k (Ω .ci n) (OfNat.ofNat m) = Ω .ci (n / 2 ^ m) := ishr_ci k n m h
theorem ishl_lit (k : IntKind) (n m : Nat) (h : m ≤ k.bits) : Ω .ishl k (Ω .ci n) (OfNat.ofNat m) = Ω .wrap k (Ω .ci (n * 2 ^ m)) := by
 rw [w_wrap]
 have : Ω .ishl k (Ω .ci n) (OfNat.ofNat m) = Ω .ishl k (Ω .ci n) (Ω .ci m) := rfl
 rw [this]
 simp only [w_ishl, toNat_ci, Nat.min_eq_left h]
 simp only [wz]
 congr 1
theorem ishl_ci (k : IntKind) (n m : Nat) (h : m ≤ k.bits) : Ω .ishl k (Ω .ci n) (Ω .ci m) = Ω .wrap k (Ω .ci (n * 2 ^ m)) := ishl_lit k n m h
theorem ishr8 (n : Nat) : Ω .ishr .u32 (Ω .ci n) 8 = Ω .ci (n / 256) := ishr_lit _ _ _ (by decide)
theorem ishr16 (n : Nat) : Ω .ishr .u32 (Ω .ci n) 16 = Ω .ci (n / 65536) := ishr_lit _ _ _ (by decide)
theorem ishr31 (n : Nat) : Ω .ishr .u32 (Ω .ci n) 31 = Ω .ci (n / 2147483648) := ishr_lit _ _ _ (by decide)
theorem ishr32 (n : Nat) : Ω .ishr .u64 (Ω .ci n) 32 = Ω .ci (n / 4294967296) := ishr_lit _ _ _ (by decide)
def bl (n : Nat) : Nat := if n = 0 then 0 else Nat.log2 n + 1
theorem bl_zero : bl 0 = 0 := rfl
theorem bl_le {n k : Nat} : bl n ≤ k ↔ n < 2 ^ k := by
 unfold bl
 split
 ·rename_i h
  subst h
  have : 0 < 2 ^ k := Nat.pow_pos (by omega)
  simp [this]
 ·rename_i h
  rw [Nat.add_one_le_iff, Nat.log2_lt h]
theorem bl_lt (n : Nat) : n < 2 ^ bl n := bl_le.1 (Nat.le_refl _)
theorem bl_eq_zero {n : Nat} : bl n = 0 ↔ n = 0 := by
 unfold bl
 split <;> simp_all
theorem bl_div {n k : Nat} (h : 2 ^ k ≤ n) : bl n = k + bl (n / 2 ^ k) := by
 have e : ∀ j, bl n ≤ j ↔ k + bl (n / 2 ^ k) ≤ j := fun j => by
  rw [bl_le]
  rcases Nat.lt_or_ge j k with q | q
  ·have : 2 ^ j ≤ 2 ^ k := Nat.pow_le_pow_right (by omega) (Nat.le_of_lt q)
   exact ⟨fun c => by omega, fun c => by omega⟩
  ·obtain ⟨d, rfl⟩ := Nat.exists_eq_add_of_le q
   rw [Nat.add_le_add_iff_left, bl_le, Nat.div_lt_iff_lt_mul (Nat.pow_pos (by omega)), Nat.pow_add, Nat.mul_comm]
 have h1 := (e (bl n)).1 (Nat.le_refl _)
 have h2 := (e (k + bl (n / 2 ^ k))).2 (Nat.le_refl _)
 omega
theorem bl8 {n : Nat} (h : n < 256) : (UInt8.ofNat (bl n)).toNat = bl n := by
 have : bl n ≤ 8 := bl_le.2 h
 simp; omega
theorem tab_idx {b : ByteArray} {k : Int} {R : Nat → Prop} (n : Nat) (hk : k = Ω .ci n) (hb : (List.range 256).all (fun n => b[n]? == some (UInt8.ofNat (bl n))) = true) (hn : n < 256) (h : R (bl n)) :
  Ω .ile 0 k ∧ ∃ c, Ω .bget b (Ω .tn k) = some c ∧ R c := by
 subst hk
 refine ⟨ci_nonneg _, _, ?_, h⟩
 rw [tn_ci, w_bget]
 have h1 := List.all_eq_true.1 hb n (List.mem_range.2 hn)
 have h2 : b[n]? = some (UInt8.ofNat (bl n)) := by simpa using h1
 rw [h2, Option.map_some, bl8 hn]
theorem sub32_bit {x y c : Nat} (hx : x < 4294967296) (hy : y < 4294967296) (hc : c ≤ 1) :
  ((4294967295 ^^^ x) &&& y ||| (4294967295 ^^^ (x ^^^ y)) &&& ((4294967296 + x - y - c) % 4294967296)) / 2147483648 = if x < y + c then 1 else 0 := by
 have lt : ∀ a b, a < 4294967296 → b < 4294967296 → a ^^^ b < 4294967296 := fun a b ha hb => Nat.xor_lt_two_pow (n := 32) ha hb
 generalize hz : (4294967295 ^^^ x) &&& y ||| (4294967295 ^^^ (x ^^^ y)) &&& ((4294967296 + x - y - c) % 4294967296) = z
 have hzl : z < 4294967296 := by
  rw [← hz]
  refine Nat.or_lt_two_pow (n := 32) ?_ ?_
  ·exact Nat.lt_of_le_of_lt Nat.and_le_right hy
  ·refine Nat.lt_of_le_of_lt Nat.and_le_right (Nat.mod_lt _ (by omega))
 have top : ∀ a, a < 4294967296 → (a.testBit 31 = true ↔ 2147483648 ≤ a) := fun a ha => by
  rw [Nat.testBit_eq_decide_div_mod_eq]
  simp only [decide_eq_true_eq]
  omega
 have hb : z.testBit 31 = ((!x.testBit 31 && y.testBit 31) || (!(x.testBit 31 != y.testBit 31) && ((4294967296 + x - y - c) % 4294967296).testBit 31)) := by
  rw [← hz, Nat.testBit_or, Nat.testBit_and, Nat.testBit_and, Nat.testBit_xor, Nat.testBit_xor, Nat.testBit_xor]
  have : (4294967295 : Nat).testBit 31 = true := by decide
  rw [this]
  cases x.testBit 31 <;> cases y.testBit 31 <;> simp
 have t1 := top x hx
 have t2 := top y hy
 have t3 := top _ (Nat.mod_lt (4294967296 + x - y - c) (show 0 < 4294967296 by omega))
 have t4 := top z hzl
 have hd : (4294967296 + x - y - c) % 4294967296 = if x < y + c then 4294967296 + x - y - c else x - y - c := by
  split <;> omega
 rw [hd] at t3 hb
 clear hd
 have e : z / 2147483648 = if z.testBit 31 then 1 else 0 := by
  by_cases q : z.testBit 31 = true
  ·rw [if_pos q]; have := t4.1 q; omega
  ·rw [if_neg q]; have := mt t4.2 q; omega
 rw [e, hb]
 generalize x.testBit 31 = bx at *
 generalize y.testBit 31 = bY at *
 generalize (if x < y + c then 4294967296 + x - y - c else x - y - c).testBit 31 = bd at *
 by_cases q : x < y + c
 ·rw [if_pos q] at t3 ⊢
  cases bx <;> cases bY <;> cases bd <;> simp at t1 t2 t3 ⊢ <;> omega
 ·rw [if_neg q] at t3 ⊢
  cases bx <;> cases bY <;> cases bd <;> simp at t1 t2 t3 ⊢ <;> omega
theorem iand_ci {a b : Nat} (ha : a < 4294967296) (hb : b < 4294967296) : Ω .iand .u32 (Ω .ci a) (Ω .ci b) = Ω .ci (a &&& b) := by
 have e : ∀ n, n < 4294967296 → (BitVec.ofInt 32 (Ω .ci n)).toNat = n := fun n hn => by
  simp only [wz, BitVec.ofInt_natCast, BitVec.toNat_ofNat]; omega
 have : Ω .iand .u32 (Ω .ci a) (Ω .ci b) = Ω .wrap .u32 (Ω .ci (BitVec.ofInt 32 (Ω .ci a) &&& BitVec.ofInt 32 (Ω .ci b)).toNat) := rfl
 rw [this, BitVec.toNat_and, e a ha, e b hb, wrapu32_ci, Nat.mod_eq_of_lt]
 exact Nat.lt_of_le_of_lt Nat.and_le_right hb
theorem ior_ci {a b : Nat} (ha : a < 4294967296) (hb : b < 4294967296) : Ω .ior .u32 (Ω .ci a) (Ω .ci b) = Ω .ci (a ||| b) := by
 have e : ∀ n, n < 4294967296 → (BitVec.ofInt 32 (Ω .ci n)).toNat = n := fun n hn => by
  simp only [wz, BitVec.ofInt_natCast, BitVec.toNat_ofNat]; omega
 have : Ω .ior .u32 (Ω .ci a) (Ω .ci b) = Ω .wrap .u32 (Ω .ci (BitVec.ofInt 32 (Ω .ci a) ||| BitVec.ofInt 32 (Ω .ci b)).toNat) := rfl
 rw [this, BitVec.toNat_or, e a ha, e b hb, wrapu32_ci, Nat.mod_eq_of_lt]
 exact Nat.or_lt_two_pow (n := 32) ha hb
theorem ixor_ci {a b : Nat} (ha : a < 4294967296) (hb : b < 4294967296) : Ω .ixor .u32 (Ω .ci a) (Ω .ci b) = Ω .ci (a ^^^ b) := by
 have e : ∀ n, n < 4294967296 → (BitVec.ofInt 32 (Ω .ci n)).toNat = n := fun n hn => by
  simp only [wz, BitVec.ofInt_natCast, BitVec.toNat_ofNat]; omega
 have : Ω .ixor .u32 (Ω .ci a) (Ω .ci b) = Ω .wrap .u32 (Ω .ci (BitVec.ofInt 32 (Ω .ci a) ^^^ BitVec.ofInt 32 (Ω .ci b)).toNat) := rfl
 rw [this, BitVec.toNat_xor, e a ha, e b hb, wrapu32_ci, Nat.mod_eq_of_lt]
 exact Nat.xor_lt_two_pow (n := 32) ha hb
theorem ior64_ci {a b : Nat} (ha : a < 18446744073709551616) (hb : b < 18446744073709551616) : Ω .ior .u64 (Ω .ci a) (Ω .ci b) = Ω .ci (a ||| b) := by
 have e : ∀ n, n < 18446744073709551616 → (BitVec.ofInt 64 (Ω .ci n)).toNat = n := fun n hn => by
  simp only [wz, BitVec.ofInt_natCast, BitVec.toNat_ofNat]; omega
 have : Ω .ior .u64 (Ω .ci a) (Ω .ci b) = Ω .wrap .u64 (Ω .ci (BitVec.ofInt 64 (Ω .ci a) ||| BitVec.ofInt 64 (Ω .ci b)).toNat) := rfl
 rw [this, BitVec.toNat_or, e a ha, e b hb, wrapu64_ci, Nat.mod_eq_of_lt]
 exact Nat.or_lt_two_pow (n := 64) ha hb
theorem sub32_diff {x y c : Nat} (hx : x < 4294967296) (hy : y < 4294967296) (hc : c ≤ 1) :
  Ω .wrap .u32 (Ω .wrap .u32 (Ω .ci x - Ω .ci y) - Ω .ci c) = Ω .ci ((4294967296 + x - y - c) % 4294967296) := by
 rw [wrapu32, wrapu32]; simp only [wz]; omega
end Go.K
namespace Go.K
open Go
theorem tdiv_ci (a b : Nat) : (Ω .ci a).tdiv (Ω .ci b) = Ω .ci (a / b) := by simp only [wz]; rw [Int.tdiv_eq_ediv_of_nonneg (by omega)]; exact (Int.natCast_ediv a b).symm
theorem tmod_ci (a b : Nat) : Ω .tmod (Ω .ci a) (Ω .ci b) = Ω .ci (a % b) := by simp only [wz, w_tmod]; rw [Int.tmod_eq_emod_of_nonneg (by omega)]; exact (Int.natCast_emod a b).symm
theorem ishl32 (n : Nat) : Ω .ishl .u64 (Ω .ci n) 32 = Ω .wrap .u64 (Ω .ci (n * 4294967296)) := ishl_lit _ _ _ (by decide)
theorem or_shl (h : Nat) {l : Nat} (hl : l < 4294967296) : h * 4294967296 ||| l = h * 4294967296 + l := by
 have := Nat.two_pow_add_eq_or_of_lt (i := 32) hl h
 rw [Nat.mul_comm h]
 exact this.symm
theorem or_shl' {r a c : Nat} (hc : c < 2 ^ r) : 2 ^ r * a ||| c = 2 ^ r * a + c := (Nat.two_pow_add_eq_or_of_lt hc a).symm
end Go.K
end
