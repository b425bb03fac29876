/-
  PRINTED BY genseat.py (a program of this work): the facts of one seat: its table of types, its functions' and types' numbers.
-/
import Derived.Test.YtjoimiljaljgcaaGreatProg
import Derived.Test.YtjoimiljaljgcaaGreatMaf
import Derived.KernelRfl
open Go
namespace Go.K.S
set_option maxRecDepth 100000
noncomputable abbrev P : Program := Go.Proofs.Tryz.prog
def tt : TypeId → Option TInfo
  | 2 => some ⟨1, 8, some (.int .i64 (0)), .int .i64⟩
  | 3 => some ⟨1, 8, some (.int .i64 (0)), .int .i64⟩
  | 4 => some ⟨1, 1, some (.bool false), .bool⟩
  | 5 => some ⟨1, 1, some (.int .u8 (0)), .int .u8⟩
  | 9 => some ⟨1, 16, some (.string ⟨#[]⟩), .string⟩
  | 12 => some ⟨1, 8, some (.int .u64 (0)), .int .u64⟩
  | 21 => some ⟨1, 4, some (.int .i32 (0)), .int .i32⟩
  | 22 => some ⟨1, 24, some (.slice none 0 0), .slice 27⟩
  | 23 => some ⟨1, 24, some (.slice none 0 0), .slice 51⟩
  | 24 => some ⟨1, 24, some (.slice none 0 0), .slice 60⟩
  | 25 => some ⟨1, 24, some (.slice none 0 0), .slice 107⟩
  | 26 => some ⟨3, 56, some (.agg #[.bool false, .slice none 0 0, .slice none 0 0]), .struct #[⟨"Neg", 4, 0, false, "", "", 0⟩, ⟨"Num", 25, 1, false, "", "", 8⟩, ⟨"Den", 25, 2, false, "", "", 32⟩]⟩
  | 27 => some ⟨3, 56, some (.agg #[.bool false, .slice none 0 0, .slice none 0 0]), .struct #[⟨"Neg", 4, 0, false, "", "", 0⟩, ⟨"Num", 25, 1, false, "", "", 8⟩, ⟨"Den", 25, 2, false, "", "", 32⟩]⟩
  | 28 => some ⟨9, 168, some (.agg #[.bool false, .slice none 0 0, .slice none 0 0, .bool false, .slice none 0 0, .slice none 0 0, .bool false, .slice none 0 0, .slice none 0 0]), .struct #[⟨"X", 27, 0, false, "", "", 0⟩, ⟨"Y", 27, 3, false, "", "", 56⟩, ⟨"Z", 27, 6, false, "", "", 112⟩]⟩
  | 29 => some ⟨9, 168, some (.agg #[.bool false, .slice none 0 0, .slice none 0 0, .bool false, .slice none 0 0, .slice none 0 0, .bool false, .slice none 0 0, .slice none 0 0]), .struct #[⟨"X", 27, 0, false, "", "", 0⟩, ⟨"Y", 27, 3, false, "", "", 56⟩, ⟨"Z", 27, 6, false, "", "", 112⟩]⟩
  | 30 => some ⟨23, 408, some (.agg #[.bool false, .slice none 0 0, .slice none 0 0, .bool false, .slice none 0 0, .slice none 0 0, .bool false, .slice none 0 0, .slice none 0 0, .bool false, .slice none 0 0, .slice none 0 0, .bool false, .slice none 0 0, .slice none 0 0, .bool false, .slice none 0 0, .slice none 0 0, .int .i64 (0), .int .i64 (0), .bool false, .slice none 0 0, .slice none 0 0]), .struct #[⟨"Eye", 29, 0, false, "", "", 0⟩, ⟨"Look", 29, 9, false, "", "", 168⟩, ⟨"W", 3, 18, false, "", "", 336⟩, ⟨"H", 3, 19, false, "", "", 344⟩, ⟨"Half", 27, 20, false, "", "", 352⟩]⟩
  | 31 => some ⟨23, 408, some (.agg #[.bool false, .slice none 0 0, .slice none 0 0, .bool false, .slice none 0 0, .slice none 0 0, .bool false, .slice none 0 0, .slice none 0 0, .bool false, .slice none 0 0, .slice none 0 0, .bool false, .slice none 0 0, .slice none 0 0, .bool false, .slice none 0 0, .slice none 0 0, .int .i64 (0), .int .i64 (0), .bool false, .slice none 0 0, .slice none 0 0]), .struct #[⟨"Eye", 29, 0, false, "", "", 0⟩, ⟨"Look", 29, 9, false, "", "", 168⟩, ⟨"W", 3, 18, false, "", "", 336⟩, ⟨"H", 3, 19, false, "", "", 344⟩, ⟨"Half", 27, 20, false, "", "", 352⟩]⟩
  | 32 => some ⟨26, 480, some (.agg #[.slice none 0 0, .slice none 0 0, .slice none 0 0, .bool false, .slice none 0 0, .slice none 0 0, .bool false, .slice none 0 0, .slice none 0 0, .bool false, .slice none 0 0, .slice none 0 0, .bool false, .slice none 0 0, .slice none 0 0, .bool false, .slice none 0 0, .slice none 0 0, .bool false, .slice none 0 0, .slice none 0 0, .int .i64 (0), .int .i64 (0), .bool false, .slice none 0 0, .slice none 0 0]), .struct #[⟨"Waves", 22, 0, false, "", "", 0⟩, ⟨"Mats", 23, 1, false, "", "", 24⟩, ⟨"Faces", 24, 2, false, "", "", 48⟩, ⟨"Camera", 31, 3, true, "", "", 72⟩]⟩
  | 33 => some ⟨26, 480, some (.agg #[.slice none 0 0, .slice none 0 0, .slice none 0 0, .bool false, .slice none 0 0, .slice none 0 0, .bool false, .slice none 0 0, .slice none 0 0, .bool false, .slice none 0 0, .slice none 0 0, .bool false, .slice none 0 0, .slice none 0 0, .bool false, .slice none 0 0, .slice none 0 0, .bool false, .slice none 0 0, .slice none 0 0, .int .i64 (0), .int .i64 (0), .bool false, .slice none 0 0, .slice none 0 0]), .struct #[⟨"Waves", 22, 0, false, "", "", 0⟩, ⟨"Mats", 23, 1, false, "", "", 24⟩, ⟨"Faces", 24, 2, false, "", "", 48⟩, ⟨"Camera", 31, 3, true, "", "", 72⟩]⟩
  | 34 => some ⟨18, 336, some (.agg #[.bool false, .slice none 0 0, .slice none 0 0, .bool false, .slice none 0 0, .slice none 0 0, .bool false, .slice none 0 0, .slice none 0 0, .bool false, .slice none 0 0, .slice none 0 0, .bool false, .slice none 0 0, .slice none 0 0, .bool false, .slice none 0 0, .slice none 0 0]), .array 2 29⟩
  | 35 => some ⟨1, 24, some (.slice none 0 0), .slice 3⟩
  | 36 => some ⟨36, 672, some (.agg #[.bool false, .slice none 0 0, .slice none 0 0, .bool false, .slice none 0 0, .slice none 0 0, .bool false, .slice none 0 0, .slice none 0 0, .bool false, .slice none 0 0, .slice none 0 0, .bool false, .slice none 0 0, .slice none 0 0, .bool false, .slice none 0 0, .slice none 0 0, .bool false, .slice none 0 0, .slice none 0 0, .bool false, .slice none 0 0, .slice none 0 0, .bool false, .slice none 0 0, .slice none 0 0, .bool false, .slice none 0 0, .slice none 0 0, .bool false, .slice none 0 0, .slice none 0 0, .bool false, .slice none 0 0, .slice none 0 0]), .struct #[⟨"X", 29, 0, false, "", "", 0⟩, ⟨"Y", 29, 9, false, "", "", 168⟩, ⟨"Z", 29, 18, false, "", "", 336⟩, ⟨"Move", 29, 27, false, "", "", 504⟩]⟩
  | 37 => some ⟨36, 672, some (.agg #[.bool false, .slice none 0 0, .slice none 0 0, .bool false, .slice none 0 0, .slice none 0 0, .bool false, .slice none 0 0, .slice none 0 0, .bool false, .slice none 0 0, .slice none 0 0, .bool false, .slice none 0 0, .slice none 0 0, .bool false, .slice none 0 0, .slice none 0 0, .bool false, .slice none 0 0, .slice none 0 0, .bool false, .slice none 0 0, .slice none 0 0, .bool false, .slice none 0 0, .slice none 0 0, .bool false, .slice none 0 0, .slice none 0 0, .bool false, .slice none 0 0, .slice none 0 0, .bool false, .slice none 0 0, .slice none 0 0]), .struct #[⟨"X", 29, 0, false, "", "", 0⟩, ⟨"Y", 29, 9, false, "", "", 168⟩, ⟨"Z", 29, 18, false, "", "", 336⟩, ⟨"Move", 29, 27, false, "", "", 504⟩]⟩
  | 38 => some ⟨59, 1096, some (.agg #[.int .i64 (0), .bool false, .slice none 0 0, .slice none 0 0, .bool false, .slice none 0 0, .slice none 0 0, .bool false, .slice none 0 0, .slice none 0 0, .bool false, .slice none 0 0, .slice none 0 0, .bool false, .slice none 0 0, .slice none 0 0, .bool false, .slice none 0 0, .slice none 0 0, .slice none 0 0, .bool false, .slice none 0 0, .slice none 0 0, .bool false, .slice none 0 0, .slice none 0 0, .bool false, .slice none 0 0, .slice none 0 0, .bool false, .slice none 0 0, .slice none 0 0, .bool false, .slice none 0 0, .slice none 0 0, .bool false, .slice none 0 0, .slice none 0 0, .bool false, .slice none 0 0, .slice none 0 0, .bool false, .slice none 0 0, .slice none 0 0, .bool false, .slice none 0 0, .slice none 0 0, .bool false, .slice none 0 0, .slice none 0 0, .bool false, .slice none 0 0, .slice none 0 0, .bool false, .slice none 0 0, .slice none 0 0, .bool false, .slice none 0 0, .slice none 0 0]), .struct #[⟨"Face", 3, 0, false, "", "", 0⟩, ⟨"P", 29, 1, false, "", "", 8⟩, ⟨"Dir", 29, 10, false, "", "", 176⟩, ⟨"Hops", 35, 19, false, "", "", 344⟩, ⟨"Map", 37, 20, true, "", "", 368⟩, ⟨"Gain", 27, 56, false, "", "", 1040⟩]⟩
  | 39 => some ⟨59, 1096, some (.agg #[.int .i64 (0), .bool false, .slice none 0 0, .slice none 0 0, .bool false, .slice none 0 0, .slice none 0 0, .bool false, .slice none 0 0, .slice none 0 0, .bool false, .slice none 0 0, .slice none 0 0, .bool false, .slice none 0 0, .slice none 0 0, .bool false, .slice none 0 0, .slice none 0 0, .slice none 0 0, .bool false, .slice none 0 0, .slice none 0 0, .bool false, .slice none 0 0, .slice none 0 0, .bool false, .slice none 0 0, .slice none 0 0, .bool false, .slice none 0 0, .slice none 0 0, .bool false, .slice none 0 0, .slice none 0 0, .bool false, .slice none 0 0, .slice none 0 0, .bool false, .slice none 0 0, .slice none 0 0, .bool false, .slice none 0 0, .slice none 0 0, .bool false, .slice none 0 0, .slice none 0 0, .bool false, .slice none 0 0, .slice none 0 0, .bool false, .slice none 0 0, .slice none 0 0, .bool false, .slice none 0 0, .slice none 0 0, .bool false, .slice none 0 0, .slice none 0 0]), .struct #[⟨"Face", 3, 0, false, "", "", 0⟩, ⟨"P", 29, 1, false, "", "", 8⟩, ⟨"Dir", 29, 10, false, "", "", 176⟩, ⟨"Hops", 35, 19, false, "", "", 344⟩, ⟨"Map", 37, 20, true, "", "", 368⟩, ⟨"Gain", 27, 56, false, "", "", 1040⟩]⟩
  | 42 => some ⟨1, 24, some (.slice none 0 0), .slice 29⟩
  | 48 => some ⟨1, 8, some (.int .i64 (0)), .int .i64⟩
  | 50 => some ⟨8, 144, some (.agg #[.int .i64 (0), .slice none 0 0, .bool false, .slice none 0 0, .slice none 0 0, .bool false, .slice none 0 0, .slice none 0 0]), .struct #[⟨"Kind", 3, 0, false, "", "", 0⟩, ⟨"Vals", 22, 1, false, "", "", 8⟩, ⟨"A", 27, 2, false, "", "", 32⟩, ⟨"B", 27, 5, false, "", "", 88⟩]⟩
  | 51 => some ⟨8, 144, some (.agg #[.int .i64 (0), .slice none 0 0, .bool false, .slice none 0 0, .slice none 0 0, .bool false, .slice none 0 0, .slice none 0 0]), .struct #[⟨"Kind", 3, 0, false, "", "", 0⟩, ⟨"Vals", 22, 1, false, "", "", 8⟩, ⟨"A", 27, 2, false, "", "", 32⟩, ⟨"B", 27, 5, false, "", "", 88⟩]⟩
  | 57 => some ⟨27, 504, some (.agg #[.bool false, .slice none 0 0, .slice none 0 0, .bool false, .slice none 0 0, .slice none 0 0, .bool false, .slice none 0 0, .slice none 0 0, .bool false, .slice none 0 0, .slice none 0 0, .bool false, .slice none 0 0, .slice none 0 0, .bool false, .slice none 0 0, .slice none 0 0, .bool false, .slice none 0 0, .slice none 0 0, .bool false, .slice none 0 0, .slice none 0 0, .bool false, .slice none 0 0, .slice none 0 0]), .struct #[⟨"A", 29, 0, false, "", "", 0⟩, ⟨"B", 29, 9, false, "", "", 168⟩, ⟨"C", 29, 18, false, "", "", 336⟩]⟩
  | 58 => some ⟨27, 504, some (.agg #[.bool false, .slice none 0 0, .slice none 0 0, .bool false, .slice none 0 0, .slice none 0 0, .bool false, .slice none 0 0, .slice none 0 0, .bool false, .slice none 0 0, .slice none 0 0, .bool false, .slice none 0 0, .slice none 0 0, .bool false, .slice none 0 0, .slice none 0 0, .bool false, .slice none 0 0, .slice none 0 0, .bool false, .slice none 0 0, .slice none 0 0, .bool false, .slice none 0 0, .slice none 0 0]), .struct #[⟨"A", 29, 0, false, "", "", 0⟩, ⟨"B", 29, 9, false, "", "", 168⟩, ⟨"C", 29, 18, false, "", "", 336⟩]⟩
  | 59 => some ⟨28, 512, some (.agg #[.bool false, .slice none 0 0, .slice none 0 0, .bool false, .slice none 0 0, .slice none 0 0, .bool false, .slice none 0 0, .slice none 0 0, .bool false, .slice none 0 0, .slice none 0 0, .bool false, .slice none 0 0, .slice none 0 0, .bool false, .slice none 0 0, .slice none 0 0, .bool false, .slice none 0 0, .slice none 0 0, .bool false, .slice none 0 0, .slice none 0 0, .bool false, .slice none 0 0, .slice none 0 0, .int .i64 (0)]), .struct #[⟨"Tri", 58, 0, true, "", "", 0⟩, ⟨"Mat", 3, 27, false, "", "", 504⟩]⟩
  | 60 => some ⟨28, 512, some (.agg #[.bool false, .slice none 0 0, .slice none 0 0, .bool false, .slice none 0 0, .slice none 0 0, .bool false, .slice none 0 0, .slice none 0 0, .bool false, .slice none 0 0, .slice none 0 0, .bool false, .slice none 0 0, .slice none 0 0, .bool false, .slice none 0 0, .slice none 0 0, .bool false, .slice none 0 0, .slice none 0 0, .bool false, .slice none 0 0, .slice none 0 0, .bool false, .slice none 0 0, .slice none 0 0, .int .i64 (0)]), .struct #[⟨"Tri", 58, 0, true, "", "", 0⟩, ⟨"Mat", 3, 27, false, "", "", 504⟩]⟩
  | 64 => some ⟨9, 168, some (.agg #[.bool false, .slice none 0 0, .slice none 0 0, .bool false, .slice none 0 0, .slice none 0 0, .bool false, .slice none 0 0, .slice none 0 0]), .struct #[⟨"S", 27, 0, false, "", "", 0⟩, ⟨"U", 27, 3, false, "", "", 56⟩, ⟨"V", 27, 6, false, "", "", 112⟩]⟩
  | 65 => some ⟨9, 168, some (.agg #[.bool false, .slice none 0 0, .slice none 0 0, .bool false, .slice none 0 0, .slice none 0 0, .bool false, .slice none 0 0, .slice none 0 0]), .struct #[⟨"S", 27, 0, false, "", "", 0⟩, ⟨"U", 27, 3, false, "", "", 56⟩, ⟨"V", 27, 6, false, "", "", 112⟩]⟩
  | 68 => some ⟨1, 24, some (.slice none 0 0), .slice 58⟩
  | 82 => some ⟨43, 776, some (.agg #[.slice none 0 0, .slice none 0 0, .slice none 0 0, .bool false, .slice none 0 0, .slice none 0 0, .bool false, .slice none 0 0, .slice none 0 0, .bool false, .slice none 0 0, .slice none 0 0, .bool false, .slice none 0 0, .slice none 0 0, .bool false, .slice none 0 0, .slice none 0 0, .bool false, .slice none 0 0, .slice none 0 0, .int .i64 (0), .int .i64 (0), .bool false, .slice none 0 0, .slice none 0 0, .int .i64 (0), .bool false, .slice none 0 0, .slice none 0 0, .bool false, .slice none 0 0, .slice none 0 0, .bool false, .slice none 0 0, .slice none 0 0, .bool false, .slice none 0 0, .slice none 0 0, .bool false, .slice none 0 0, .slice none 0 0, .int .i64 (0)]), .struct #[⟨"Sc", 33, 0, false, "", "", 0⟩, ⟨"Face", 3, 26, false, "", "", 480⟩, ⟨"U", 27, 27, false, "", "", 488⟩, ⟨"V", 27, 30, false, "", "", 544⟩, ⟨"D", 29, 33, false, "", "", 600⟩, ⟨"Bin", 3, 42, false, "", "", 768⟩]⟩
  | 83 => some ⟨43, 776, some (.agg #[.slice none 0 0, .slice none 0 0, .slice none 0 0, .bool false, .slice none 0 0, .slice none 0 0, .bool false, .slice none 0 0, .slice none 0 0, .bool false, .slice none 0 0, .slice none 0 0, .bool false, .slice none 0 0, .slice none 0 0, .bool false, .slice none 0 0, .slice none 0 0, .bool false, .slice none 0 0, .slice none 0 0, .int .i64 (0), .int .i64 (0), .bool false, .slice none 0 0, .slice none 0 0, .int .i64 (0), .bool false, .slice none 0 0, .slice none 0 0, .bool false, .slice none 0 0, .slice none 0 0, .bool false, .slice none 0 0, .slice none 0 0, .bool false, .slice none 0 0, .slice none 0 0, .bool false, .slice none 0 0, .slice none 0 0, .int .i64 (0)]), .struct #[⟨"Sc", 33, 0, false, "", "", 0⟩, ⟨"Face", 3, 26, false, "", "", 480⟩, ⟨"U", 27, 27, false, "", "", 488⟩, ⟨"V", 27, 30, false, "", "", 544⟩, ⟨"D", 29, 33, false, "", "", 600⟩, ⟨"Bin", 3, 42, false, "", "", 768⟩]⟩
  | 89 => some ⟨1, 8, some (.pointer none), .pointer 129⟩
  | 107 => some ⟨1, 4, some (.int .u32 (0)), .int .u32⟩
  | 123 => some ⟨27, 504, some (.agg #[.bool false, .slice none 0 0, .slice none 0 0, .bool false, .slice none 0 0, .slice none 0 0, .bool false, .slice none 0 0, .slice none 0 0, .bool false, .slice none 0 0, .slice none 0 0, .bool false, .slice none 0 0, .slice none 0 0, .bool false, .slice none 0 0, .slice none 0 0, .bool false, .slice none 0 0, .slice none 0 0, .bool false, .slice none 0 0, .slice none 0 0, .bool false, .slice none 0 0, .slice none 0 0]), .array 3 29⟩
  | 125 => some ⟨1, 24, some (.slice none 0 0), .slice 185⟩
  | 126 => some ⟨2, 48, some (.agg #[.slice none 0 0, .slice none 0 0]), .struct #[⟨"Nodes", 125, 0, false, "", "", 0⟩, ⟨"Order", 35, 1, false, "", "", 24⟩]⟩
  | 127 => some ⟨2, 48, some (.agg #[.slice none 0 0, .slice none 0 0]), .struct #[⟨"Nodes", 125, 0, false, "", "", 0⟩, ⟨"Order", 35, 1, false, "", "", 24⟩]⟩
  | 128 => some ⟨32, 624, some (.agg #[.slice none 0 0, .slice none 0 0, .slice none 0 0, .bool false, .slice none 0 0, .slice none 0 0, .bool false, .slice none 0 0, .slice none 0 0, .bool false, .slice none 0 0, .slice none 0 0, .bool false, .slice none 0 0, .slice none 0 0, .bool false, .slice none 0 0, .slice none 0 0, .bool false, .slice none 0 0, .slice none 0 0, .int .i64 (0), .int .i64 (0), .bool false, .slice none 0 0, .slice none 0 0, .slice none 0 0, .slice none 0 0, .slice none 0 0, .slice none 0 0, .slice none 0 0, .slice none 0 0]), .struct #[⟨"Scene", 33, 0, true, "", "", 0⟩, ⟨"Tris", 68, 26, false, "", "", 480⟩, ⟨"Tree", 127, 27, false, "", "", 504⟩, ⟨"Units", 42, 29, false, "", "", 552⟩, ⟨"Areas", 22, 30, false, "", "", 576⟩, ⟨"Lights", 35, 31, false, "", "", 600⟩]⟩
  | 129 => some ⟨32, 624, some (.agg #[.slice none 0 0, .slice none 0 0, .slice none 0 0, .bool false, .slice none 0 0, .slice none 0 0, .bool false, .slice none 0 0, .slice none 0 0, .bool false, .slice none 0 0, .slice none 0 0, .bool false, .slice none 0 0, .slice none 0 0, .bool false, .slice none 0 0, .slice none 0 0, .bool false, .slice none 0 0, .slice none 0 0, .int .i64 (0), .int .i64 (0), .bool false, .slice none 0 0, .slice none 0 0, .slice none 0 0, .slice none 0 0, .slice none 0 0, .slice none 0 0, .slice none 0 0, .slice none 0 0]), .struct #[⟨"Scene", 33, 0, true, "", "", 0⟩, ⟨"Tris", 68, 26, false, "", "", 480⟩, ⟨"Tree", 127, 27, false, "", "", 504⟩, ⟨"Units", 42, 29, false, "", "", 552⟩, ⟨"Areas", 22, 30, false, "", "", 576⟩, ⟨"Lights", 35, 31, false, "", "", 600⟩]⟩
  | 150 => some ⟨1, 8, some (.int .u64 (0)), .int .u64⟩
  | 152 => some ⟨1, 8, some (.pointer none), .pointer 154⟩
  | 153 => some ⟨4, 96, some (.agg #[.slice none 0 0, .slice none 0 0, .slice none 0 0, .slice none 0 0]), .struct #[⟨"Tree", 127, 0, true, "", "", 0⟩, ⟨"tris", 68, 2, false, "", "penumbra/bvh", 48⟩, ⟨"at", 42, 3, false, "", "penumbra/bvh", 72⟩]⟩
  | 154 => some ⟨4, 96, some (.agg #[.slice none 0 0, .slice none 0 0, .slice none 0 0, .slice none 0 0]), .struct #[⟨"Tree", 127, 0, true, "", "", 0⟩, ⟨"tris", 68, 2, false, "", "penumbra/bvh", 48⟩, ⟨"at", 42, 3, false, "", "penumbra/bvh", 72⟩]⟩
  | 155 => some ⟨18, 336, some (.agg #[.bool false, .slice none 0 0, .slice none 0 0, .bool false, .slice none 0 0, .slice none 0 0, .bool false, .slice none 0 0, .slice none 0 0, .bool false, .slice none 0 0, .slice none 0 0, .bool false, .slice none 0 0, .slice none 0 0, .bool false, .slice none 0 0, .slice none 0 0]), .struct #[⟨"Lo", 29, 0, false, "", "", 0⟩, ⟨"Hi", 29, 9, false, "", "", 168⟩]⟩
  | 156 => some ⟨18, 336, some (.agg #[.bool false, .slice none 0 0, .slice none 0 0, .bool false, .slice none 0 0, .slice none 0 0, .bool false, .slice none 0 0, .slice none 0 0, .bool false, .slice none 0 0, .slice none 0 0, .bool false, .slice none 0 0, .slice none 0 0, .bool false, .slice none 0 0, .slice none 0 0]), .struct #[⟨"Lo", 29, 0, false, "", "", 0⟩, ⟨"Hi", 29, 9, false, "", "", 168⟩]⟩
  | 159 => some ⟨1, 8, some (.pointer none), .pointer 162⟩
  | 160 => some ⟨1, 24, some (.slice none 0 0), .slice 4⟩
  | 161 => some ⟨32, 608, some (.agg #[.slice none 0 0, .slice none 0 0, .slice none 0 0, .bool false, .slice none 0 0, .slice none 0 0, .bool false, .slice none 0 0, .slice none 0 0, .bool false, .slice none 0 0, .slice none 0 0, .bool false, .slice none 0 0, .slice none 0 0, .bool false, .slice none 0 0, .slice none 0 0, .bool false, .slice none 0 0, .slice none 0 0, .int .i64 (0), .slice none 0 0, .bool false, .slice none 0 0, .slice none 0 0, .bool false, .slice none 0 0, .slice none 0 0, .bool false, .slice none 0 0, .slice none 0 0]), .struct #[⟨"Tree", 127, 0, true, "", "", 0⟩, ⟨"tris", 68, 2, false, "", "penumbra/trace", 48⟩, ⟨"o", 29, 3, false, "", "penumbra/trace", 72⟩, ⟨"d", 29, 12, false, "", "penumbra/trace", 240⟩, ⟨"best", 3, 21, false, "", "penumbra/trace", 408⟩, ⟨"seen", 160, 22, false, "", "penumbra/trace", 416⟩, ⟨"Meet", 65, 23, true, "", "", 440⟩]⟩
  | 162 => some ⟨32, 608, some (.agg #[.slice none 0 0, .slice none 0 0, .slice none 0 0, .bool false, .slice none 0 0, .slice none 0 0, .bool false, .slice none 0 0, .slice none 0 0, .bool false, .slice none 0 0, .slice none 0 0, .bool false, .slice none 0 0, .slice none 0 0, .bool false, .slice none 0 0, .slice none 0 0, .bool false, .slice none 0 0, .slice none 0 0, .int .i64 (0), .slice none 0 0, .bool false, .slice none 0 0, .slice none 0 0, .bool false, .slice none 0 0, .slice none 0 0, .bool false, .slice none 0 0, .slice none 0 0]), .struct #[⟨"Tree", 127, 0, true, "", "", 0⟩, ⟨"tris", 68, 2, false, "", "penumbra/trace", 48⟩, ⟨"o", 29, 3, false, "", "penumbra/trace", 72⟩, ⟨"d", 29, 12, false, "", "penumbra/trace", 240⟩, ⟨"best", 3, 21, false, "", "penumbra/trace", 408⟩, ⟨"seen", 160, 22, false, "", "penumbra/trace", 416⟩, ⟨"Meet", 65, 23, true, "", "", 440⟩]⟩
  | 164 => some ⟨4, 4, some (.agg #[.bool false, .bool false, .bool false, .bool false]), .array 4 4⟩
  | 165 => some ⟨30, 488, some (.agg #[.slice none 0 0, .slice none 0 0, .slice none 0 0, .bool false, .slice none 0 0, .slice none 0 0, .bool false, .slice none 0 0, .slice none 0 0, .bool false, .slice none 0 0, .slice none 0 0, .bool false, .slice none 0 0, .slice none 0 0, .bool false, .slice none 0 0, .slice none 0 0, .bool false, .slice none 0 0, .slice none 0 0, .int .i64 (0), .int .i64 (0), .bool false, .slice none 0 0, .slice none 0 0, .bool false, .bool false, .bool false, .bool false]), .struct #[⟨"Sc", 33, 0, false, "", "", 0⟩, ⟨"Seen", 164, 26, false, "", "", 480⟩]⟩
  | 166 => some ⟨30, 488, some (.agg #[.slice none 0 0, .slice none 0 0, .slice none 0 0, .bool false, .slice none 0 0, .slice none 0 0, .bool false, .slice none 0 0, .slice none 0 0, .bool false, .slice none 0 0, .slice none 0 0, .bool false, .slice none 0 0, .slice none 0 0, .bool false, .slice none 0 0, .slice none 0 0, .bool false, .slice none 0 0, .slice none 0 0, .int .i64 (0), .int .i64 (0), .bool false, .slice none 0 0, .slice none 0 0, .bool false, .bool false, .bool false, .bool false]), .struct #[⟨"Sc", 33, 0, false, "", "", 0⟩, ⟨"Seen", 164, 26, false, "", "", 480⟩]⟩
  | 167 => some ⟨1, 24, some (.slice none 0 0), .slice 9⟩
  | 172 => some ⟨1, 8, some (.int .u64 (0)), .int .u64⟩
  | 182 => some ⟨1, 24, some (.slice none 0 0), .slice 156⟩
  | 184 => some ⟨22, 368, some (.agg #[.bool false, .slice none 0 0, .slice none 0 0, .bool false, .slice none 0 0, .slice none 0 0, .bool false, .slice none 0 0, .slice none 0 0, .bool false, .slice none 0 0, .slice none 0 0, .bool false, .slice none 0 0, .slice none 0 0, .bool false, .slice none 0 0, .slice none 0 0, .int .i64 (0), .int .i64 (0), .int .i64 (0), .int .i64 (0)]), .struct #[⟨"Box", 156, 0, true, "", "", 0⟩, ⟨"Left", 3, 18, false, "", "", 336⟩, ⟨"Right", 3, 19, false, "", "", 344⟩, ⟨"From", 3, 20, false, "", "", 352⟩, ⟨"Count", 3, 21, false, "", "", 360⟩]⟩
  | 185 => some ⟨22, 368, some (.agg #[.bool false, .slice none 0 0, .slice none 0 0, .bool false, .slice none 0 0, .slice none 0 0, .bool false, .slice none 0 0, .slice none 0 0, .bool false, .slice none 0 0, .slice none 0 0, .bool false, .slice none 0 0, .slice none 0 0, .bool false, .slice none 0 0, .slice none 0 0, .int .i64 (0), .int .i64 (0), .int .i64 (0), .int .i64 (0)]), .struct #[⟨"Box", 156, 0, true, "", "", 0⟩, ⟨"Left", 3, 18, false, "", "", 336⟩, ⟨"Right", 3, 19, false, "", "", 344⟩, ⟨"From", 3, 20, false, "", "", 352⟩, ⟨"Count", 3, 21, false, "", "", 360⟩]⟩
  | 187 => some ⟨7, 120, some (.agg #[.bool false, .slice none 0 0, .slice none 0 0, .bool false, .slice none 0 0, .slice none 0 0, .bool false]), .struct #[⟨"From", 27, 0, false, "", "", 0⟩, ⟨"To", 27, 3, false, "", "", 56⟩, ⟨"Open", 4, 6, false, "", "", 112⟩]⟩
  | 188 => some ⟨7, 120, some (.agg #[.bool false, .slice none 0 0, .slice none 0 0, .bool false, .slice none 0 0, .slice none 0 0, .bool false]), .struct #[⟨"From", 27, 0, false, "", "", 0⟩, ⟨"To", 27, 3, false, "", "", 56⟩, ⟨"Open", 4, 6, false, "", "", 112⟩]⟩
  | 192 => some ⟨2, 16, some (.agg #[.int .i64 (0), .int .i64 (0)]), .array 2 3⟩
  | 206 => some ⟨9, 168, some (.agg #[.bool false, .slice none 0 0, .slice none 0 0, .bool false, .slice none 0 0, .slice none 0 0, .bool false, .slice none 0 0, .slice none 0 0]), .array 3 27⟩
  | 217 => some ⟨0, 0, some (.agg #[]), .array 0 16⟩
  | 224 => some ⟨1, 8, some (.pointer none), .pointer 5⟩
  | 229 => some ⟨1, 16, some (.agg #[.string ⟨#[]⟩]), .struct #[⟨"s", 9, 0, false, "", "errors", 0⟩]⟩
  | _ => none
theorem tokOf {T : TypeId} {a b : Nat} {c : Option Value} {u : TypeDesc} (h : (P.info? T).map (fun i => (i.size, i.bytes, i.zero)) = some (a, b, c)) (hu : P.underlying T = some u)
    (hz : ∀ z, c = some z → z.cells.size = a ∧ z.cells.toList.all Value.oneCell' = true) : TOk P T ⟨a, b, c, u⟩ := by
  cases hi : P.info? T with
  | none => rw [hi] at h; cases h
  | some info => rw [hi] at h; cases h; exact ⟨⟨info, hi, rfl, rfl, rfl⟩, hu, hz⟩
theorem ttOk : TTok P tt := fun T i h => by
  unfold tt at h
  split at h <;> first | (cases h; done) | (cases h; exact tokOf (by kernel_rfl) (by kernel_rfl) (fun z h => by cases h; exact ⟨rfl, rfl⟩))
theorem mix : P.follows .mixedOrders = true := by kernel_rfl
namespace T
abbrev int : TypeId := 3
abbrev bool : TypeId := 4
abbrev string : TypeId := 9
abbrev L_api_Rat : TypeId := 22
abbrev L_api_Mat : TypeId := 23
abbrev L_api_Face : TypeId := 24
abbrev L_uint32 : TypeId := 25
abbrev api_Rat : TypeId := 27
abbrev api_Vec : TypeId := 29
abbrev api_Camera : TypeId := 31
abbrev api_Scene : TypeId := 33
abbrev A2_api_Vec : TypeId := 34
abbrev api_Mat : TypeId := 51
abbrev api_Tri : TypeId := 58
abbrev api_Face : TypeId := 60
abbrev uint32 : TypeId := 107
abbrev api_Box : TypeId := 156
abbrev api_Node : TypeId := 185
end T
namespace F
abbrev penumbralaw15_ChainFollows : FuncId := 3
abbrev chain_Follow : FuncId := 8
abbrev penumbraref15_Follow : FuncId := 9
abbrev penumbralaw15_fixed : FuncId := 10
abbrev penumbraref15_Is : FuncId := 11
abbrev penumbraref09_Check : FuncId := 12
abbrev penumbraref15_Mat : FuncId := 13
abbrev penumbraref03_One : FuncId := 14
abbrev rat_Product : FuncId := 15
abbrev penumbraref03_Is : FuncId := 16
abbrev penumbraref03_Sign : FuncId := 18
abbrev penumbraref05_Dot : FuncId := 19
abbrev penumbraref08_Normal : FuncId := 20
abbrev penumbraref12_Nearest : FuncId := 21
abbrev penumbraref15_Tris : FuncId := 22
abbrev penumbraref07_Is : FuncId := 23
abbrev penumbraref07_Identity : FuncId := 24
abbrev penumbraref05_Is : FuncId := 25
abbrev penumbraref08_At : FuncId := 26
abbrev penumbraref05_Read : FuncId := 27
abbrev vec_Sub : FuncId := 28
abbrev affine_Apply : FuncId := 29
abbrev vec_Cross : FuncId := 30
abbrev penumbraref05_Zero : FuncId := 31
abbrev rat_Sign : FuncId := 32
abbrev vec_Dot : FuncId := 33
abbrev affine_Turn : FuncId := 34
abbrev vec_Read : FuncId := 35
abbrev vec_Scale : FuncId := 37
abbrev rat_Of : FuncId := 38
abbrev penumbraref15_Ints : FuncId := 39
abbrev tri_Normal : FuncId := 41
abbrev ready_New : FuncId := 44
abbrev chain_From : FuncId := 45
abbrev penumbraref15_Bend : FuncId := 46
abbrev penumbraref15_Normal : FuncId := 47
abbrev penumbraref03_Mul : FuncId := 48
abbrev penumbraref07_Turn : FuncId := 49
abbrev penumbraref07_Stretch : FuncId := 50
abbrev penumbraref07_Then : FuncId := 51
abbrev penumbraref03_Over : FuncId := 52
abbrev penumbralaw15_room : FuncId := 53
abbrev vec_Of : FuncId := 54
abbrev penumbraref05_Of : FuncId := 55
abbrev penumbraref03_Of : FuncId := 56
abbrev penumbraref09_all : FuncId := 57
abbrev penumbraref03_Check : FuncId := 58
abbrev penumbraref01_Bits : FuncId := 59
abbrev penumbraref09_material : FuncId := 60
abbrev penumbraref08_Unit : FuncId := 61
abbrev rat_one : FuncId := 62
abbrev rat_times : FuncId := 63
abbrev rat_Read : FuncId := 64
abbrev penumbraref01_Same : FuncId := 65
abbrev penumbraref05_Sub : FuncId := 66
abbrev penumbraref08_Hit : FuncId := 67
abbrev penumbraref05_Add : FuncId := 68
abbrev penumbraref01_Zero : FuncId := 69
abbrev penumbraref03_Add : FuncId := 70
abbrev penumbraref05_Cross : FuncId := 71
abbrev penumbraref08_None : FuncId := 72
abbrev penumbraref03_Cmp : FuncId := 73
abbrev penumbraref05_Scale : FuncId := 74
abbrev penumbraref03_Read : FuncId := 75
abbrev rat_Sub : FuncId := 76
abbrev vec_Sum : FuncId := 77
abbrev vec_minor : FuncId := 78
abbrev penumbraref03_Zero : FuncId := 79
abbrev nat_Bits : FuncId := 80
abbrev rat_Sum : FuncId := 81
abbrev rat_made : FuncId := 82
abbrev rat_size : FuncId := 83
abbrev tri_sides : FuncId := 84
abbrev rat_Div : FuncId := 85
abbrev affine_Identity : FuncId := 86
abbrev scene_Check : FuncId := 88
abbrev tri_Unit : FuncId := 89
abbrev bvh_Build : FuncId := 90
abbrev trace_Nearest : FuncId := 91
abbrev tri_At : FuncId := 92
abbrev P_ready_Scene_Bend : FuncId := 93
abbrev P_ready_Scene_Mat : FuncId := 94
abbrev affine_Stretch : FuncId := 95
abbrev affine_Then : FuncId := 96
abbrev penumbraref09_Eta : FuncId := 97
abbrev penumbraref01_Mul : FuncId := 98
abbrev penumbraref07_Told : FuncId := 99
abbrev penumbraref07_stretched : FuncId := 100
abbrev penumbraref07_Apply : FuncId := 101
abbrev penumbraref03_Div : FuncId := 102
abbrev penumbraref09_Parse : FuncId := 103
abbrev penumbraref03_abs : FuncId := 104
abbrev penumbraref01_Norm : FuncId := 105
abbrev penumbraref05_Unit : FuncId := 106
abbrev nat_Mul : FuncId := 107
abbrev penumbraref03_Sub : FuncId := 108
abbrev penumbraref01_Cmp : FuncId := 109
abbrev penumbraref01_Add : FuncId := 110
abbrev penumbraref01_Sub : FuncId := 111
abbrev penumbraref02_Gcd : FuncId := 112
abbrev penumbraref01_DivMod : FuncId := 113
abbrev rat_plus : FuncId := 114
abbrev nat_trim : FuncId := 115
abbrev math_bits_LeadingZeros32 : FuncId := 116
abbrev nat_Norm : FuncId := 117
abbrev root_Gcd : FuncId := 118
abbrev nat_DivMod : FuncId := 119
abbrev nat_Of : FuncId := 120
abbrev scene_sizes : FuncId := 121
abbrev scene_material : FuncId := 122
abbrev rat_Same : FuncId := 123
abbrev vec_Unit : FuncId := 124
abbrev bvh_around : FuncId := 125
abbrev P_bvh_builder_node : FuncId := 126
abbrev P_trace_walker_node : FuncId := 127
abbrev scene_Eta : FuncId := 128
abbrev rat_Neg : FuncId := 129
abbrev affine_columns : FuncId := 130
abbrev affine_Then_1 : FuncId := 131
abbrev penumbraref09_Lines : FuncId := 132
abbrev penumbraref09_Words : FuncId := 133
abbrev penumbraref09_line : FuncId := 134
abbrev penumbraref01_Of : FuncId := 135
abbrev penumbraref03_Sqrt : FuncId := 136
abbrev penumbraref03_Neg : FuncId := 137
abbrev penumbraref01_limb : FuncId := 138
abbrev penumbraref01_Double : FuncId := 139
abbrev penumbraref01_at : FuncId := 140
abbrev penumbraref01_Half : FuncId := 141
abbrev rat_whole : FuncId := 142
abbrev nat_Add : FuncId := 143
abbrev nat_Sub : FuncId := 144
abbrev math_bits_Len32 : FuncId := 145
abbrev slices_Clone_L_uint32_uint32 : FuncId := 146
abbrev nat_Cmp : FuncId := 147
abbrev nat_small : FuncId := 148
abbrev nat_long : FuncId := 149
abbrev scene_fits : FuncId := 150
abbrev scene_fit : FuncId := 151
abbrev rat_Cmp : FuncId := 152
abbrev rat_Sqrt : FuncId := 153
abbrev boxes_Around : FuncId := 154
abbrev boxes_Join : FuncId := 155
abbrev P_bvh_builder_part : FuncId := 156
abbrev P_bvh_builder_widest : FuncId := 157
abbrev boxes_Clip : FuncId := 158
abbrev P_trace_walker_past : FuncId := 159
abbrev P_trace_walker_leaf : FuncId := 160
abbrev penumbraref09_place : FuncId := 161
abbrev penumbraref09_numbers : FuncId := 162
abbrev penumbraref09_whole : FuncId := 163
abbrev penumbraref09_vec : FuncId := 164
abbrev penumbraref02_Sqrt : FuncId := 165
abbrev math_bits_Add32 : FuncId := 166
abbrev math_bits_Sub32 : FuncId := 167
abbrev math_bits_Div32 : FuncId := 168
abbrev nat_Shl : FuncId := 169
abbrev nat_less : FuncId := 170
abbrev nat_back : FuncId := 171
abbrev nat_shr : FuncId := 172
abbrev rat_Check : FuncId := 173
abbrev root_Sqrt : FuncId := 174
abbrev boxes_least : FuncId := 175
abbrev boxes_most : FuncId := 176
abbrev P_bvh_builder_ahead : FuncId := 177
abbrev bvh_axis : FuncId := 178
abbrev boxes_axes : FuncId := 179
abbrev tri_Hit : FuncId := 180
abbrev penumbraref04_Parse : FuncId := 181
abbrev slices_Equal_L_uint32_uint32 : FuncId := 182
abbrev penumbraref04_Digits : FuncId := 183
abbrev penumbraref04_Number : FuncId := 184
end F
namespace B
noncomputable abbrev penumbralaw15_ChainFollows : Func := Go.Proofs.Tryz.f3
noncomputable abbrev chain_Follow : Func := Go.Proofs.Tryz.f8
noncomputable abbrev penumbraref15_Follow : Func := Go.Proofs.Tryz.f9
noncomputable abbrev penumbralaw15_fixed : Func := Go.Proofs.Tryz.f10
noncomputable abbrev penumbraref15_Is : Func := Go.Proofs.Tryz.f11
noncomputable abbrev penumbraref09_Check : Func := Go.Proofs.Tryz.f12
noncomputable abbrev penumbraref15_Mat : Func := Go.Proofs.Tryz.f13
noncomputable abbrev penumbraref03_One : Func := Go.Proofs.Tryz.f14
noncomputable abbrev rat_Product : Func := Go.Proofs.Tryz.f15
noncomputable abbrev penumbraref03_Is : Func := Go.Proofs.Tryz.f16
noncomputable abbrev penumbraref03_Sign : Func := Go.Proofs.Tryz.f18
noncomputable abbrev penumbraref05_Dot : Func := Go.Proofs.Tryz.f19
noncomputable abbrev penumbraref08_Normal : Func := Go.Proofs.Tryz.f20
noncomputable abbrev penumbraref12_Nearest : Func := Go.Proofs.Tryz.f21
noncomputable abbrev penumbraref15_Tris : Func := Go.Proofs.Tryz.f22
noncomputable abbrev penumbraref07_Is : Func := Go.Proofs.Tryz.f23
noncomputable abbrev penumbraref07_Identity : Func := Go.Proofs.Tryz.f24
noncomputable abbrev penumbraref05_Is : Func := Go.Proofs.Tryz.f25
noncomputable abbrev penumbraref08_At : Func := Go.Proofs.Tryz.f26
noncomputable abbrev penumbraref05_Read : Func := Go.Proofs.Tryz.f27
noncomputable abbrev vec_Sub : Func := Go.Proofs.Tryz.f28
noncomputable abbrev affine_Apply : Func := Go.Proofs.Tryz.f29
noncomputable abbrev vec_Cross : Func := Go.Proofs.Tryz.f30
noncomputable abbrev penumbraref05_Zero : Func := Go.Proofs.Tryz.f31
noncomputable abbrev rat_Sign : Func := Go.Proofs.Tryz.f32
noncomputable abbrev vec_Dot : Func := Go.Proofs.Tryz.f33
noncomputable abbrev affine_Turn : Func := Go.Proofs.Tryz.f34
noncomputable abbrev vec_Read : Func := Go.Proofs.Tryz.f35
noncomputable abbrev vec_Scale : Func := Go.Proofs.Tryz.f37
noncomputable abbrev rat_Of : Func := Go.Proofs.Tryz.f38
noncomputable abbrev penumbraref15_Ints : Func := Go.Proofs.Tryz.f39
noncomputable abbrev tri_Normal : Func := Go.Proofs.Tryz.f41
noncomputable abbrev ready_New : Func := Go.Proofs.Tryz.f44
noncomputable abbrev chain_From : Func := Go.Proofs.Tryz.f45
noncomputable abbrev penumbraref15_Bend : Func := Go.Proofs.Tryz.f46
noncomputable abbrev penumbraref15_Normal : Func := Go.Proofs.Tryz.f47
noncomputable abbrev penumbraref03_Mul : Func := Go.Proofs.Tryz.f48
noncomputable abbrev penumbraref07_Turn : Func := Go.Proofs.Tryz.f49
noncomputable abbrev penumbraref07_Stretch : Func := Go.Proofs.Tryz.f50
noncomputable abbrev penumbraref07_Then : Func := Go.Proofs.Tryz.f51
noncomputable abbrev penumbraref03_Over : Func := Go.Proofs.Tryz.f52
noncomputable abbrev penumbralaw15_room : Func := Go.Proofs.Tryz.f53
noncomputable abbrev vec_Of : Func := Go.Proofs.Tryz.f54
noncomputable abbrev penumbraref05_Of : Func := Go.Proofs.Tryz.f55
noncomputable abbrev penumbraref03_Of : Func := Go.Proofs.Tryz.f56
noncomputable abbrev penumbraref09_all : Func := Go.Proofs.Tryz.f57
noncomputable abbrev penumbraref03_Check : Func := Go.Proofs.Tryz.f58
noncomputable abbrev penumbraref01_Bits : Func := Go.Proofs.Tryz.f59
noncomputable abbrev penumbraref09_material : Func := Go.Proofs.Tryz.f60
noncomputable abbrev penumbraref08_Unit : Func := Go.Proofs.Tryz.f61
noncomputable abbrev rat_one : Func := Go.Proofs.Tryz.f62
noncomputable abbrev rat_times : Func := Go.Proofs.Tryz.f63
noncomputable abbrev rat_Read : Func := Go.Proofs.Tryz.f64
noncomputable abbrev penumbraref01_Same : Func := Go.Proofs.Tryz.f65
noncomputable abbrev penumbraref05_Sub : Func := Go.Proofs.Tryz.f66
noncomputable abbrev penumbraref08_Hit : Func := Go.Proofs.Tryz.f67
noncomputable abbrev penumbraref05_Add : Func := Go.Proofs.Tryz.f68
noncomputable abbrev penumbraref01_Zero : Func := Go.Proofs.Tryz.f69
noncomputable abbrev penumbraref03_Add : Func := Go.Proofs.Tryz.f70
noncomputable abbrev penumbraref05_Cross : Func := Go.Proofs.Tryz.f71
noncomputable abbrev penumbraref08_None : Func := Go.Proofs.Tryz.f72
noncomputable abbrev penumbraref03_Cmp : Func := Go.Proofs.Tryz.f73
noncomputable abbrev penumbraref05_Scale : Func := Go.Proofs.Tryz.f74
noncomputable abbrev penumbraref03_Read : Func := Go.Proofs.Tryz.f75
noncomputable abbrev rat_Sub : Func := Go.Proofs.Tryz.f76
noncomputable abbrev vec_Sum : Func := Go.Proofs.Tryz.f77
noncomputable abbrev vec_minor : Func := Go.Proofs.Tryz.f78
noncomputable abbrev penumbraref03_Zero : Func := Go.Proofs.Tryz.f79
noncomputable abbrev nat_Bits : Func := Go.Proofs.Tryz.f80
noncomputable abbrev rat_Sum : Func := Go.Proofs.Tryz.f81
noncomputable abbrev rat_made : Func := Go.Proofs.Tryz.f82
noncomputable abbrev rat_size : Func := Go.Proofs.Tryz.f83
noncomputable abbrev tri_sides : Func := Go.Proofs.Tryz.f84
noncomputable abbrev rat_Div : Func := Go.Proofs.Tryz.f85
noncomputable abbrev affine_Identity : Func := Go.Proofs.Tryz.f86
noncomputable abbrev scene_Check : Func := Go.Proofs.Tryz.f88
noncomputable abbrev tri_Unit : Func := Go.Proofs.Tryz.f89
noncomputable abbrev bvh_Build : Func := Go.Proofs.Tryz.f90
noncomputable abbrev trace_Nearest : Func := Go.Proofs.Tryz.f91
noncomputable abbrev tri_At : Func := Go.Proofs.Tryz.f92
noncomputable abbrev P_ready_Scene_Bend : Func := Go.Proofs.Tryz.f93
noncomputable abbrev P_ready_Scene_Mat : Func := Go.Proofs.Tryz.f94
noncomputable abbrev affine_Stretch : Func := Go.Proofs.Tryz.f95
noncomputable abbrev affine_Then : Func := Go.Proofs.Tryz.f96
noncomputable abbrev penumbraref09_Eta : Func := Go.Proofs.Tryz.f97
noncomputable abbrev penumbraref01_Mul : Func := Go.Proofs.Tryz.f98
noncomputable abbrev penumbraref07_Told : Func := Go.Proofs.Tryz.f99
noncomputable abbrev penumbraref07_stretched : Func := Go.Proofs.Tryz.f100
noncomputable abbrev penumbraref07_Apply : Func := Go.Proofs.Tryz.f101
noncomputable abbrev penumbraref03_Div : Func := Go.Proofs.Tryz.f102
noncomputable abbrev penumbraref09_Parse : Func := Go.Proofs.Tryz.f103
noncomputable abbrev penumbraref03_abs : Func := Go.Proofs.Tryz.f104
noncomputable abbrev penumbraref01_Norm : Func := Go.Proofs.Tryz.f105
noncomputable abbrev penumbraref05_Unit : Func := Go.Proofs.Tryz.f106
noncomputable abbrev nat_Mul : Func := Go.Proofs.Tryz.f107
noncomputable abbrev penumbraref03_Sub : Func := Go.Proofs.Tryz.f108
noncomputable abbrev penumbraref01_Cmp : Func := Go.Proofs.Tryz.f109
noncomputable abbrev penumbraref01_Add : Func := Go.Proofs.Tryz.f110
noncomputable abbrev penumbraref01_Sub : Func := Go.Proofs.Tryz.f111
noncomputable abbrev penumbraref02_Gcd : Func := Go.Proofs.Tryz.f112
noncomputable abbrev penumbraref01_DivMod : Func := Go.Proofs.Tryz.f113
noncomputable abbrev rat_plus : Func := Go.Proofs.Tryz.f114
noncomputable abbrev nat_trim : Func := Go.Proofs.Tryz.f115
noncomputable abbrev math_bits_LeadingZeros32 : Func := Go.Proofs.Tryz.f116
noncomputable abbrev nat_Norm : Func := Go.Proofs.Tryz.f117
noncomputable abbrev root_Gcd : Func := Go.Proofs.Tryz.f118
noncomputable abbrev nat_DivMod : Func := Go.Proofs.Tryz.f119
noncomputable abbrev nat_Of : Func := Go.Proofs.Tryz.f120
noncomputable abbrev scene_sizes : Func := Go.Proofs.Tryz.f121
noncomputable abbrev scene_material : Func := Go.Proofs.Tryz.f122
noncomputable abbrev rat_Same : Func := Go.Proofs.Tryz.f123
noncomputable abbrev vec_Unit : Func := Go.Proofs.Tryz.f124
noncomputable abbrev bvh_around : Func := Go.Proofs.Tryz.f125
noncomputable abbrev P_bvh_builder_node : Func := Go.Proofs.Tryz.f126
noncomputable abbrev P_trace_walker_node : Func := Go.Proofs.Tryz.f127
noncomputable abbrev scene_Eta : Func := Go.Proofs.Tryz.f128
noncomputable abbrev rat_Neg : Func := Go.Proofs.Tryz.f129
noncomputable abbrev affine_columns : Func := Go.Proofs.Tryz.f130
noncomputable abbrev affine_Then_1 : Func := Go.Proofs.Tryz.f131
noncomputable abbrev penumbraref09_Lines : Func := Go.Proofs.Tryz.f132
noncomputable abbrev penumbraref09_Words : Func := Go.Proofs.Tryz.f133
noncomputable abbrev penumbraref09_line : Func := Go.Proofs.Tryz.f134
noncomputable abbrev penumbraref01_Of : Func := Go.Proofs.Tryz.f135
noncomputable abbrev penumbraref03_Sqrt : Func := Go.Proofs.Tryz.f136
noncomputable abbrev penumbraref03_Neg : Func := Go.Proofs.Tryz.f137
noncomputable abbrev penumbraref01_limb : Func := Go.Proofs.Tryz.f138
noncomputable abbrev penumbraref01_Double : Func := Go.Proofs.Tryz.f139
noncomputable abbrev penumbraref01_at : Func := Go.Proofs.Tryz.f140
noncomputable abbrev penumbraref01_Half : Func := Go.Proofs.Tryz.f141
noncomputable abbrev rat_whole : Func := Go.Proofs.Tryz.f142
noncomputable abbrev nat_Add : Func := Go.Proofs.Tryz.f143
noncomputable abbrev nat_Sub : Func := Go.Proofs.Tryz.f144
noncomputable abbrev math_bits_Len32 : Func := Go.Proofs.Tryz.f145
noncomputable abbrev slices_Clone_L_uint32_uint32 : Func := Go.Proofs.Tryz.f146
noncomputable abbrev nat_Cmp : Func := Go.Proofs.Tryz.f147
noncomputable abbrev nat_small : Func := Go.Proofs.Tryz.f148
noncomputable abbrev nat_long : Func := Go.Proofs.Tryz.f149
noncomputable abbrev scene_fits : Func := Go.Proofs.Tryz.f150
noncomputable abbrev scene_fit : Func := Go.Proofs.Tryz.f151
noncomputable abbrev rat_Cmp : Func := Go.Proofs.Tryz.f152
noncomputable abbrev rat_Sqrt : Func := Go.Proofs.Tryz.f153
noncomputable abbrev boxes_Around : Func := Go.Proofs.Tryz.f154
noncomputable abbrev boxes_Join : Func := Go.Proofs.Tryz.f155
noncomputable abbrev P_bvh_builder_part : Func := Go.Proofs.Tryz.f156
noncomputable abbrev P_bvh_builder_widest : Func := Go.Proofs.Tryz.f157
noncomputable abbrev boxes_Clip : Func := Go.Proofs.Tryz.f158
noncomputable abbrev P_trace_walker_past : Func := Go.Proofs.Tryz.f159
noncomputable abbrev P_trace_walker_leaf : Func := Go.Proofs.Tryz.f160
noncomputable abbrev penumbraref09_place : Func := Go.Proofs.Tryz.f161
noncomputable abbrev penumbraref09_numbers : Func := Go.Proofs.Tryz.f162
noncomputable abbrev penumbraref09_whole : Func := Go.Proofs.Tryz.f163
noncomputable abbrev penumbraref09_vec : Func := Go.Proofs.Tryz.f164
noncomputable abbrev penumbraref02_Sqrt : Func := Go.Proofs.Tryz.f165
noncomputable abbrev math_bits_Add32 : Func := Go.Proofs.Tryz.f166
noncomputable abbrev math_bits_Sub32 : Func := Go.Proofs.Tryz.f167
noncomputable abbrev math_bits_Div32 : Func := Go.Proofs.Tryz.f168
noncomputable abbrev nat_Shl : Func := Go.Proofs.Tryz.f169
noncomputable abbrev nat_less : Func := Go.Proofs.Tryz.f170
noncomputable abbrev nat_back : Func := Go.Proofs.Tryz.f171
noncomputable abbrev nat_shr : Func := Go.Proofs.Tryz.f172
noncomputable abbrev rat_Check : Func := Go.Proofs.Tryz.f173
noncomputable abbrev root_Sqrt : Func := Go.Proofs.Tryz.f174
noncomputable abbrev boxes_least : Func := Go.Proofs.Tryz.f175
noncomputable abbrev boxes_most : Func := Go.Proofs.Tryz.f176
noncomputable abbrev P_bvh_builder_ahead : Func := Go.Proofs.Tryz.f177
noncomputable abbrev bvh_axis : Func := Go.Proofs.Tryz.f178
noncomputable abbrev boxes_axes : Func := Go.Proofs.Tryz.f179
noncomputable abbrev tri_Hit : Func := Go.Proofs.Tryz.f180
noncomputable abbrev penumbraref04_Parse : Func := Go.Proofs.Tryz.f181
noncomputable abbrev slices_Equal_L_uint32_uint32 : Func := Go.Proofs.Tryz.f182
noncomputable abbrev penumbraref04_Digits : Func := Go.Proofs.Tryz.f183
noncomputable abbrev penumbraref04_Number : Func := Go.Proofs.Tryz.f184
end B
def ro : FuncId → Bool
  | 93 => true
  | 94 => true
  | 131 => true
  | 157 => true
  | 177 => true
  | _ => false
def CC (C : FuncId → List D → V → Prop) : Prop := ∀ g ds r, Good P g (ds.map V.d) [] r [] → C g ds r
def CC2 (C2 : FuncId → List V → List Blk → V → List Blk → Prop) : Prop := ∀ g args bs r bs', Good P g args bs r bs' → C2 g args bs r bs'
theorem goodOf {f : FuncId} {fn : Func} (hf : P.funcs[f]? = some fn) (hn : (fn.name == "runtime.NumGoroutine") = false) (hc : (match fn.body with | some c => codeOk fn.ntmps c | none => false) = true)
    (md : FuncId → Bool) {args : List V} {r : V} (ha : args.length ≤ fn.ntmps) (h : ∀ C C2, CC C → CC2 C2 → wpF Ω ⟨tt, C, C2, md, 0, ro⟩ fn args (fun x => x = r)) : Good P f args [] r [] :=
  good_of_wpF (envOf_ok ttOk md 0 ro) mix rfl hf hn hc ha (h _ _ (fun _ _ _ h => h) (fun _ _ _ _ _ h => h))
theorem goodOf2 {f : FuncId} {fn : Func} (hf : P.funcs[f]? = some fn) (hn : (fn.name == "runtime.NumGoroutine") = false) (hc : (match fn.body with | some c => codeOk fn.ntmps c | none => false) = true)
    (md : FuncId → Bool) {args : List V} {bs bs' : List Blk} {r : V} (hb : bs.length ≤ 1000) (ha : args.length ≤ fn.ntmps) (h : ∀ C C2, CC C → CC2 C2 → wpF2 Ω ⟨tt, C, C2, md, bs.length, ro⟩ fn args bs (fun x b => x = r ∧ b = bs')) : Good P f args bs r bs' :=
  good_of_wpF2 (envOf_ok ttOk md bs.length ro) mix rfl hb hf hn hc ha (h _ _ (fun _ _ _ h => h) (fun _ _ _ _ _ h => h))
def md : FuncId → Bool
  | 44 => true
  | 45 => true
  | 93 => true
  | 94 => true
  | 126 => true
  | 127 => true
  | 131 => true
  | 134 => true
  | 156 => true
  | 157 => true
  | 159 => true
  | 160 => true
  | 170 => true
  | 171 => true
  | 177 => true
  | _ => false
namespace G
theorem penumbralaw15_ChainFollows {args : List V} {r : V} (h : ∀ C C2, CC C → CC2 C2 → wpF Ω ⟨tt, C, C2, md, 0, ro⟩ B.penumbralaw15_ChainFollows args (fun x => x = r)) (ha : args.length ≤ (B.penumbralaw15_ChainFollows).ntmps := by exact of_decide_eq_true rfl) : Good P F.penumbralaw15_ChainFollows args [] r [] := goodOf Go.Proofs.Tryz.func3 (by kernel_rfl) (by kernel_rfl) md ha h
theorem chain_Follow {args : List V} {r : V} (h : ∀ C C2, CC C → CC2 C2 → wpF Ω ⟨tt, C, C2, md, 0, ro⟩ B.chain_Follow args (fun x => x = r)) (ha : args.length ≤ (B.chain_Follow).ntmps := by exact of_decide_eq_true rfl) : Good P F.chain_Follow args [] r [] := goodOf Go.Proofs.Tryz.func8 (by kernel_rfl) (by kernel_rfl) md ha h
theorem penumbraref15_Follow {args : List V} {r : V} (h : ∀ C C2, CC C → CC2 C2 → wpF Ω ⟨tt, C, C2, md, 0, ro⟩ B.penumbraref15_Follow args (fun x => x = r)) (ha : args.length ≤ (B.penumbraref15_Follow).ntmps := by exact of_decide_eq_true rfl) : Good P F.penumbraref15_Follow args [] r [] := goodOf Go.Proofs.Tryz.func9 (by kernel_rfl) (by kernel_rfl) md ha h
theorem penumbralaw15_fixed {args : List V} {r : V} (h : ∀ C C2, CC C → CC2 C2 → wpF Ω ⟨tt, C, C2, md, 0, ro⟩ B.penumbralaw15_fixed args (fun x => x = r)) (ha : args.length ≤ (B.penumbralaw15_fixed).ntmps := by exact of_decide_eq_true rfl) : Good P F.penumbralaw15_fixed args [] r [] := goodOf Go.Proofs.Tryz.func10 (by kernel_rfl) (by kernel_rfl) md ha h
theorem penumbraref15_Is {args : List V} {r : V} (h : ∀ C C2, CC C → CC2 C2 → wpF Ω ⟨tt, C, C2, md, 0, ro⟩ B.penumbraref15_Is args (fun x => x = r)) (ha : args.length ≤ (B.penumbraref15_Is).ntmps := by exact of_decide_eq_true rfl) : Good P F.penumbraref15_Is args [] r [] := goodOf Go.Proofs.Tryz.func11 (by kernel_rfl) (by kernel_rfl) md ha h
theorem penumbraref09_Check {args : List V} {r : V} (h : ∀ C C2, CC C → CC2 C2 → wpF Ω ⟨tt, C, C2, md, 0, ro⟩ B.penumbraref09_Check args (fun x => x = r)) (ha : args.length ≤ (B.penumbraref09_Check).ntmps := by exact of_decide_eq_true rfl) : Good P F.penumbraref09_Check args [] r [] := goodOf Go.Proofs.Tryz.func12 (by kernel_rfl) (by kernel_rfl) md ha h
theorem penumbraref15_Mat {args : List V} {r : V} (h : ∀ C C2, CC C → CC2 C2 → wpF Ω ⟨tt, C, C2, md, 0, ro⟩ B.penumbraref15_Mat args (fun x => x = r)) (ha : args.length ≤ (B.penumbraref15_Mat).ntmps := by exact of_decide_eq_true rfl) : Good P F.penumbraref15_Mat args [] r [] := goodOf Go.Proofs.Tryz.func13 (by kernel_rfl) (by kernel_rfl) md ha h
theorem penumbraref03_One {args : List V} {r : V} (h : ∀ C C2, CC C → CC2 C2 → wpF Ω ⟨tt, C, C2, md, 0, ro⟩ B.penumbraref03_One args (fun x => x = r)) (ha : args.length ≤ (B.penumbraref03_One).ntmps := by exact of_decide_eq_true rfl) : Good P F.penumbraref03_One args [] r [] := goodOf Go.Proofs.Tryz.func14 (by kernel_rfl) (by kernel_rfl) md ha h
theorem rat_Product {args : List V} {r : V} (h : ∀ C C2, CC C → CC2 C2 → wpF Ω ⟨tt, C, C2, md, 0, ro⟩ B.rat_Product args (fun x => x = r)) (ha : args.length ≤ (B.rat_Product).ntmps := by exact of_decide_eq_true rfl) : Good P F.rat_Product args [] r [] := goodOf Go.Proofs.Tryz.func15 (by kernel_rfl) (by kernel_rfl) md ha h
theorem penumbraref03_Is {args : List V} {r : V} (h : ∀ C C2, CC C → CC2 C2 → wpF Ω ⟨tt, C, C2, md, 0, ro⟩ B.penumbraref03_Is args (fun x => x = r)) (ha : args.length ≤ (B.penumbraref03_Is).ntmps := by exact of_decide_eq_true rfl) : Good P F.penumbraref03_Is args [] r [] := goodOf Go.Proofs.Tryz.func16 (by kernel_rfl) (by kernel_rfl) md ha h
theorem penumbraref03_Sign {args : List V} {r : V} (h : ∀ C C2, CC C → CC2 C2 → wpF Ω ⟨tt, C, C2, md, 0, ro⟩ B.penumbraref03_Sign args (fun x => x = r)) (ha : args.length ≤ (B.penumbraref03_Sign).ntmps := by exact of_decide_eq_true rfl) : Good P F.penumbraref03_Sign args [] r [] := goodOf Go.Proofs.Tryz.func18 (by kernel_rfl) (by kernel_rfl) md ha h
theorem penumbraref05_Dot {args : List V} {r : V} (h : ∀ C C2, CC C → CC2 C2 → wpF Ω ⟨tt, C, C2, md, 0, ro⟩ B.penumbraref05_Dot args (fun x => x = r)) (ha : args.length ≤ (B.penumbraref05_Dot).ntmps := by exact of_decide_eq_true rfl) : Good P F.penumbraref05_Dot args [] r [] := goodOf Go.Proofs.Tryz.func19 (by kernel_rfl) (by kernel_rfl) md ha h
theorem penumbraref08_Normal {args : List V} {r : V} (h : ∀ C C2, CC C → CC2 C2 → wpF Ω ⟨tt, C, C2, md, 0, ro⟩ B.penumbraref08_Normal args (fun x => x = r)) (ha : args.length ≤ (B.penumbraref08_Normal).ntmps := by exact of_decide_eq_true rfl) : Good P F.penumbraref08_Normal args [] r [] := goodOf Go.Proofs.Tryz.func20 (by kernel_rfl) (by kernel_rfl) md ha h
theorem penumbraref12_Nearest {args : List V} {r : V} (h : ∀ C C2, CC C → CC2 C2 → wpF Ω ⟨tt, C, C2, md, 0, ro⟩ B.penumbraref12_Nearest args (fun x => x = r)) (ha : args.length ≤ (B.penumbraref12_Nearest).ntmps := by exact of_decide_eq_true rfl) : Good P F.penumbraref12_Nearest args [] r [] := goodOf Go.Proofs.Tryz.func21 (by kernel_rfl) (by kernel_rfl) md ha h
theorem penumbraref15_Tris {args : List V} {r : V} (h : ∀ C C2, CC C → CC2 C2 → wpF Ω ⟨tt, C, C2, md, 0, ro⟩ B.penumbraref15_Tris args (fun x => x = r)) (ha : args.length ≤ (B.penumbraref15_Tris).ntmps := by exact of_decide_eq_true rfl) : Good P F.penumbraref15_Tris args [] r [] := goodOf Go.Proofs.Tryz.func22 (by kernel_rfl) (by kernel_rfl) md ha h
theorem penumbraref07_Is {args : List V} {r : V} (h : ∀ C C2, CC C → CC2 C2 → wpF Ω ⟨tt, C, C2, md, 0, ro⟩ B.penumbraref07_Is args (fun x => x = r)) (ha : args.length ≤ (B.penumbraref07_Is).ntmps := by exact of_decide_eq_true rfl) : Good P F.penumbraref07_Is args [] r [] := goodOf Go.Proofs.Tryz.func23 (by kernel_rfl) (by kernel_rfl) md ha h
theorem penumbraref07_Identity {args : List V} {r : V} (h : ∀ C C2, CC C → CC2 C2 → wpF Ω ⟨tt, C, C2, md, 0, ro⟩ B.penumbraref07_Identity args (fun x => x = r)) (ha : args.length ≤ (B.penumbraref07_Identity).ntmps := by exact of_decide_eq_true rfl) : Good P F.penumbraref07_Identity args [] r [] := goodOf Go.Proofs.Tryz.func24 (by kernel_rfl) (by kernel_rfl) md ha h
theorem penumbraref05_Is {args : List V} {r : V} (h : ∀ C C2, CC C → CC2 C2 → wpF Ω ⟨tt, C, C2, md, 0, ro⟩ B.penumbraref05_Is args (fun x => x = r)) (ha : args.length ≤ (B.penumbraref05_Is).ntmps := by exact of_decide_eq_true rfl) : Good P F.penumbraref05_Is args [] r [] := goodOf Go.Proofs.Tryz.func25 (by kernel_rfl) (by kernel_rfl) md ha h
theorem penumbraref08_At {args : List V} {r : V} (h : ∀ C C2, CC C → CC2 C2 → wpF Ω ⟨tt, C, C2, md, 0, ro⟩ B.penumbraref08_At args (fun x => x = r)) (ha : args.length ≤ (B.penumbraref08_At).ntmps := by exact of_decide_eq_true rfl) : Good P F.penumbraref08_At args [] r [] := goodOf Go.Proofs.Tryz.func26 (by kernel_rfl) (by kernel_rfl) md ha h
theorem penumbraref05_Read {args : List V} {r : V} (h : ∀ C C2, CC C → CC2 C2 → wpF Ω ⟨tt, C, C2, md, 0, ro⟩ B.penumbraref05_Read args (fun x => x = r)) (ha : args.length ≤ (B.penumbraref05_Read).ntmps := by exact of_decide_eq_true rfl) : Good P F.penumbraref05_Read args [] r [] := goodOf Go.Proofs.Tryz.func27 (by kernel_rfl) (by kernel_rfl) md ha h
theorem vec_Sub {args : List V} {r : V} (h : ∀ C C2, CC C → CC2 C2 → wpF Ω ⟨tt, C, C2, md, 0, ro⟩ B.vec_Sub args (fun x => x = r)) (ha : args.length ≤ (B.vec_Sub).ntmps := by exact of_decide_eq_true rfl) : Good P F.vec_Sub args [] r [] := goodOf Go.Proofs.Tryz.func28 (by kernel_rfl) (by kernel_rfl) md ha h
theorem affine_Apply {args : List V} {r : V} (h : ∀ C C2, CC C → CC2 C2 → wpF Ω ⟨tt, C, C2, md, 0, ro⟩ B.affine_Apply args (fun x => x = r)) (ha : args.length ≤ (B.affine_Apply).ntmps := by exact of_decide_eq_true rfl) : Good P F.affine_Apply args [] r [] := goodOf Go.Proofs.Tryz.func29 (by kernel_rfl) (by kernel_rfl) md ha h
theorem vec_Cross {args : List V} {r : V} (h : ∀ C C2, CC C → CC2 C2 → wpF Ω ⟨tt, C, C2, md, 0, ro⟩ B.vec_Cross args (fun x => x = r)) (ha : args.length ≤ (B.vec_Cross).ntmps := by exact of_decide_eq_true rfl) : Good P F.vec_Cross args [] r [] := goodOf Go.Proofs.Tryz.func30 (by kernel_rfl) (by kernel_rfl) md ha h
theorem penumbraref05_Zero {args : List V} {r : V} (h : ∀ C C2, CC C → CC2 C2 → wpF Ω ⟨tt, C, C2, md, 0, ro⟩ B.penumbraref05_Zero args (fun x => x = r)) (ha : args.length ≤ (B.penumbraref05_Zero).ntmps := by exact of_decide_eq_true rfl) : Good P F.penumbraref05_Zero args [] r [] := goodOf Go.Proofs.Tryz.func31 (by kernel_rfl) (by kernel_rfl) md ha h
theorem rat_Sign {args : List V} {r : V} (h : ∀ C C2, CC C → CC2 C2 → wpF Ω ⟨tt, C, C2, md, 0, ro⟩ B.rat_Sign args (fun x => x = r)) (ha : args.length ≤ (B.rat_Sign).ntmps := by exact of_decide_eq_true rfl) : Good P F.rat_Sign args [] r [] := goodOf Go.Proofs.Tryz.func32 (by kernel_rfl) (by kernel_rfl) md ha h
theorem vec_Dot {args : List V} {r : V} (h : ∀ C C2, CC C → CC2 C2 → wpF Ω ⟨tt, C, C2, md, 0, ro⟩ B.vec_Dot args (fun x => x = r)) (ha : args.length ≤ (B.vec_Dot).ntmps := by exact of_decide_eq_true rfl) : Good P F.vec_Dot args [] r [] := goodOf Go.Proofs.Tryz.func33 (by kernel_rfl) (by kernel_rfl) md ha h
theorem affine_Turn {args : List V} {r : V} (h : ∀ C C2, CC C → CC2 C2 → wpF Ω ⟨tt, C, C2, md, 0, ro⟩ B.affine_Turn args (fun x => x = r)) (ha : args.length ≤ (B.affine_Turn).ntmps := by exact of_decide_eq_true rfl) : Good P F.affine_Turn args [] r [] := goodOf Go.Proofs.Tryz.func34 (by kernel_rfl) (by kernel_rfl) md ha h
theorem vec_Read {args : List V} {r : V} (h : ∀ C C2, CC C → CC2 C2 → wpF Ω ⟨tt, C, C2, md, 0, ro⟩ B.vec_Read args (fun x => x = r)) (ha : args.length ≤ (B.vec_Read).ntmps := by exact of_decide_eq_true rfl) : Good P F.vec_Read args [] r [] := goodOf Go.Proofs.Tryz.func35 (by kernel_rfl) (by kernel_rfl) md ha h
theorem vec_Scale {args : List V} {r : V} (h : ∀ C C2, CC C → CC2 C2 → wpF Ω ⟨tt, C, C2, md, 0, ro⟩ B.vec_Scale args (fun x => x = r)) (ha : args.length ≤ (B.vec_Scale).ntmps := by exact of_decide_eq_true rfl) : Good P F.vec_Scale args [] r [] := goodOf Go.Proofs.Tryz.func37 (by kernel_rfl) (by kernel_rfl) md ha h
theorem rat_Of {args : List V} {r : V} (h : ∀ C C2, CC C → CC2 C2 → wpF Ω ⟨tt, C, C2, md, 0, ro⟩ B.rat_Of args (fun x => x = r)) (ha : args.length ≤ (B.rat_Of).ntmps := by exact of_decide_eq_true rfl) : Good P F.rat_Of args [] r [] := goodOf Go.Proofs.Tryz.func38 (by kernel_rfl) (by kernel_rfl) md ha h
theorem penumbraref15_Ints {args : List V} {r : V} (h : ∀ C C2, CC C → CC2 C2 → wpF Ω ⟨tt, C, C2, md, 0, ro⟩ B.penumbraref15_Ints args (fun x => x = r)) (ha : args.length ≤ (B.penumbraref15_Ints).ntmps := by exact of_decide_eq_true rfl) : Good P F.penumbraref15_Ints args [] r [] := goodOf Go.Proofs.Tryz.func39 (by kernel_rfl) (by kernel_rfl) md ha h
theorem tri_Normal {args : List V} {r : V} (h : ∀ C C2, CC C → CC2 C2 → wpF Ω ⟨tt, C, C2, md, 0, ro⟩ B.tri_Normal args (fun x => x = r)) (ha : args.length ≤ (B.tri_Normal).ntmps := by exact of_decide_eq_true rfl) : Good P F.tri_Normal args [] r [] := goodOf Go.Proofs.Tryz.func41 (by kernel_rfl) (by kernel_rfl) md ha h
theorem ready_New {args : List V} {bs bs' : List Blk} {r : V} (h : ∀ C C2, CC C → CC2 C2 → wpF2 Ω ⟨tt, C, C2, md, bs.length, ro⟩ B.ready_New args bs (fun x b => x = r ∧ b = bs')) (hb : bs.length ≤ 1000 := by decide) (ha : args.length ≤ (B.ready_New).ntmps := by exact of_decide_eq_true rfl) : Good P F.ready_New args bs r bs' := goodOf2 Go.Proofs.Tryz.func44 (by kernel_rfl) (by kernel_rfl) md hb ha h
theorem chain_From {args : List V} {bs bs' : List Blk} {r : V} (h : ∀ C C2, CC C → CC2 C2 → wpF2 Ω ⟨tt, C, C2, md, bs.length, ro⟩ B.chain_From args bs (fun x b => x = r ∧ b = bs')) (hb : bs.length ≤ 1000 := by decide) (ha : args.length ≤ (B.chain_From).ntmps := by exact of_decide_eq_true rfl) : Good P F.chain_From args bs r bs' := goodOf2 Go.Proofs.Tryz.func45 (by kernel_rfl) (by kernel_rfl) md hb ha h
theorem penumbraref15_Bend {args : List V} {r : V} (h : ∀ C C2, CC C → CC2 C2 → wpF Ω ⟨tt, C, C2, md, 0, ro⟩ B.penumbraref15_Bend args (fun x => x = r)) (ha : args.length ≤ (B.penumbraref15_Bend).ntmps := by exact of_decide_eq_true rfl) : Good P F.penumbraref15_Bend args [] r [] := goodOf Go.Proofs.Tryz.func46 (by kernel_rfl) (by kernel_rfl) md ha h
theorem penumbraref15_Normal {args : List V} {r : V} (h : ∀ C C2, CC C → CC2 C2 → wpF Ω ⟨tt, C, C2, md, 0, ro⟩ B.penumbraref15_Normal args (fun x => x = r)) (ha : args.length ≤ (B.penumbraref15_Normal).ntmps := by exact of_decide_eq_true rfl) : Good P F.penumbraref15_Normal args [] r [] := goodOf Go.Proofs.Tryz.func47 (by kernel_rfl) (by kernel_rfl) md ha h
theorem penumbraref03_Mul {args : List V} {r : V} (h : ∀ C C2, CC C → CC2 C2 → wpF Ω ⟨tt, C, C2, md, 0, ro⟩ B.penumbraref03_Mul args (fun x => x = r)) (ha : args.length ≤ (B.penumbraref03_Mul).ntmps := by exact of_decide_eq_true rfl) : Good P F.penumbraref03_Mul args [] r [] := goodOf Go.Proofs.Tryz.func48 (by kernel_rfl) (by kernel_rfl) md ha h
theorem penumbraref07_Turn {args : List V} {r : V} (h : ∀ C C2, CC C → CC2 C2 → wpF Ω ⟨tt, C, C2, md, 0, ro⟩ B.penumbraref07_Turn args (fun x => x = r)) (ha : args.length ≤ (B.penumbraref07_Turn).ntmps := by exact of_decide_eq_true rfl) : Good P F.penumbraref07_Turn args [] r [] := goodOf Go.Proofs.Tryz.func49 (by kernel_rfl) (by kernel_rfl) md ha h
theorem penumbraref07_Stretch {args : List V} {r : V} (h : ∀ C C2, CC C → CC2 C2 → wpF Ω ⟨tt, C, C2, md, 0, ro⟩ B.penumbraref07_Stretch args (fun x => x = r)) (ha : args.length ≤ (B.penumbraref07_Stretch).ntmps := by exact of_decide_eq_true rfl) : Good P F.penumbraref07_Stretch args [] r [] := goodOf Go.Proofs.Tryz.func50 (by kernel_rfl) (by kernel_rfl) md ha h
theorem penumbraref07_Then {args : List V} {r : V} (h : ∀ C C2, CC C → CC2 C2 → wpF Ω ⟨tt, C, C2, md, 0, ro⟩ B.penumbraref07_Then args (fun x => x = r)) (ha : args.length ≤ (B.penumbraref07_Then).ntmps := by exact of_decide_eq_true rfl) : Good P F.penumbraref07_Then args [] r [] := goodOf Go.Proofs.Tryz.func51 (by kernel_rfl) (by kernel_rfl) md ha h
theorem penumbraref03_Over {args : List V} {r : V} (h : ∀ C C2, CC C → CC2 C2 → wpF Ω ⟨tt, C, C2, md, 0, ro⟩ B.penumbraref03_Over args (fun x => x = r)) (ha : args.length ≤ (B.penumbraref03_Over).ntmps := by exact of_decide_eq_true rfl) : Good P F.penumbraref03_Over args [] r [] := goodOf Go.Proofs.Tryz.func52 (by kernel_rfl) (by kernel_rfl) md ha h
theorem penumbralaw15_room {args : List V} {r : V} (h : ∀ C C2, CC C → CC2 C2 → wpF Ω ⟨tt, C, C2, md, 0, ro⟩ B.penumbralaw15_room args (fun x => x = r)) (ha : args.length ≤ (B.penumbralaw15_room).ntmps := by exact of_decide_eq_true rfl) : Good P F.penumbralaw15_room args [] r [] := goodOf Go.Proofs.Tryz.func53 (by kernel_rfl) (by kernel_rfl) md ha h
theorem vec_Of {args : List V} {r : V} (h : ∀ C C2, CC C → CC2 C2 → wpF Ω ⟨tt, C, C2, md, 0, ro⟩ B.vec_Of args (fun x => x = r)) (ha : args.length ≤ (B.vec_Of).ntmps := by exact of_decide_eq_true rfl) : Good P F.vec_Of args [] r [] := goodOf Go.Proofs.Tryz.func54 (by kernel_rfl) (by kernel_rfl) md ha h
theorem penumbraref05_Of {args : List V} {r : V} (h : ∀ C C2, CC C → CC2 C2 → wpF Ω ⟨tt, C, C2, md, 0, ro⟩ B.penumbraref05_Of args (fun x => x = r)) (ha : args.length ≤ (B.penumbraref05_Of).ntmps := by exact of_decide_eq_true rfl) : Good P F.penumbraref05_Of args [] r [] := goodOf Go.Proofs.Tryz.func55 (by kernel_rfl) (by kernel_rfl) md ha h
theorem penumbraref03_Of {args : List V} {r : V} (h : ∀ C C2, CC C → CC2 C2 → wpF Ω ⟨tt, C, C2, md, 0, ro⟩ B.penumbraref03_Of args (fun x => x = r)) (ha : args.length ≤ (B.penumbraref03_Of).ntmps := by exact of_decide_eq_true rfl) : Good P F.penumbraref03_Of args [] r [] := goodOf Go.Proofs.Tryz.func56 (by kernel_rfl) (by kernel_rfl) md ha h
theorem penumbraref09_all {args : List V} {r : V} (h : ∀ C C2, CC C → CC2 C2 → wpF Ω ⟨tt, C, C2, md, 0, ro⟩ B.penumbraref09_all args (fun x => x = r)) (ha : args.length ≤ (B.penumbraref09_all).ntmps := by exact of_decide_eq_true rfl) : Good P F.penumbraref09_all args [] r [] := goodOf Go.Proofs.Tryz.func57 (by kernel_rfl) (by kernel_rfl) md ha h
theorem penumbraref03_Check {args : List V} {r : V} (h : ∀ C C2, CC C → CC2 C2 → wpF Ω ⟨tt, C, C2, md, 0, ro⟩ B.penumbraref03_Check args (fun x => x = r)) (ha : args.length ≤ (B.penumbraref03_Check).ntmps := by exact of_decide_eq_true rfl) : Good P F.penumbraref03_Check args [] r [] := goodOf Go.Proofs.Tryz.func58 (by kernel_rfl) (by kernel_rfl) md ha h
theorem penumbraref01_Bits {args : List V} {r : V} (h : ∀ C C2, CC C → CC2 C2 → wpF Ω ⟨tt, C, C2, md, 0, ro⟩ B.penumbraref01_Bits args (fun x => x = r)) (ha : args.length ≤ (B.penumbraref01_Bits).ntmps := by exact of_decide_eq_true rfl) : Good P F.penumbraref01_Bits args [] r [] := goodOf Go.Proofs.Tryz.func59 (by kernel_rfl) (by kernel_rfl) md ha h
theorem penumbraref09_material {args : List V} {r : V} (h : ∀ C C2, CC C → CC2 C2 → wpF Ω ⟨tt, C, C2, md, 0, ro⟩ B.penumbraref09_material args (fun x => x = r)) (ha : args.length ≤ (B.penumbraref09_material).ntmps := by exact of_decide_eq_true rfl) : Good P F.penumbraref09_material args [] r [] := goodOf Go.Proofs.Tryz.func60 (by kernel_rfl) (by kernel_rfl) md ha h
theorem penumbraref08_Unit {args : List V} {r : V} (h : ∀ C C2, CC C → CC2 C2 → wpF Ω ⟨tt, C, C2, md, 0, ro⟩ B.penumbraref08_Unit args (fun x => x = r)) (ha : args.length ≤ (B.penumbraref08_Unit).ntmps := by exact of_decide_eq_true rfl) : Good P F.penumbraref08_Unit args [] r [] := goodOf Go.Proofs.Tryz.func61 (by kernel_rfl) (by kernel_rfl) md ha h
theorem rat_one {args : List V} {r : V} (h : ∀ C C2, CC C → CC2 C2 → wpF Ω ⟨tt, C, C2, md, 0, ro⟩ B.rat_one args (fun x => x = r)) (ha : args.length ≤ (B.rat_one).ntmps := by exact of_decide_eq_true rfl) : Good P F.rat_one args [] r [] := goodOf Go.Proofs.Tryz.func62 (by kernel_rfl) (by kernel_rfl) md ha h
theorem rat_times {args : List V} {r : V} (h : ∀ C C2, CC C → CC2 C2 → wpF Ω ⟨tt, C, C2, md, 0, ro⟩ B.rat_times args (fun x => x = r)) (ha : args.length ≤ (B.rat_times).ntmps := by exact of_decide_eq_true rfl) : Good P F.rat_times args [] r [] := goodOf Go.Proofs.Tryz.func63 (by kernel_rfl) (by kernel_rfl) md ha h
theorem rat_Read {args : List V} {r : V} (h : ∀ C C2, CC C → CC2 C2 → wpF Ω ⟨tt, C, C2, md, 0, ro⟩ B.rat_Read args (fun x => x = r)) (ha : args.length ≤ (B.rat_Read).ntmps := by exact of_decide_eq_true rfl) : Good P F.rat_Read args [] r [] := goodOf Go.Proofs.Tryz.func64 (by kernel_rfl) (by kernel_rfl) md ha h
theorem penumbraref01_Same {args : List V} {r : V} (h : ∀ C C2, CC C → CC2 C2 → wpF Ω ⟨tt, C, C2, md, 0, ro⟩ B.penumbraref01_Same args (fun x => x = r)) (ha : args.length ≤ (B.penumbraref01_Same).ntmps := by exact of_decide_eq_true rfl) : Good P F.penumbraref01_Same args [] r [] := goodOf Go.Proofs.Tryz.func65 (by kernel_rfl) (by kernel_rfl) md ha h
theorem penumbraref05_Sub {args : List V} {r : V} (h : ∀ C C2, CC C → CC2 C2 → wpF Ω ⟨tt, C, C2, md, 0, ro⟩ B.penumbraref05_Sub args (fun x => x = r)) (ha : args.length ≤ (B.penumbraref05_Sub).ntmps := by exact of_decide_eq_true rfl) : Good P F.penumbraref05_Sub args [] r [] := goodOf Go.Proofs.Tryz.func66 (by kernel_rfl) (by kernel_rfl) md ha h
theorem penumbraref08_Hit {args : List V} {r : V} (h : ∀ C C2, CC C → CC2 C2 → wpF Ω ⟨tt, C, C2, md, 0, ro⟩ B.penumbraref08_Hit args (fun x => x = r)) (ha : args.length ≤ (B.penumbraref08_Hit).ntmps := by exact of_decide_eq_true rfl) : Good P F.penumbraref08_Hit args [] r [] := goodOf Go.Proofs.Tryz.func67 (by kernel_rfl) (by kernel_rfl) md ha h
theorem penumbraref05_Add {args : List V} {r : V} (h : ∀ C C2, CC C → CC2 C2 → wpF Ω ⟨tt, C, C2, md, 0, ro⟩ B.penumbraref05_Add args (fun x => x = r)) (ha : args.length ≤ (B.penumbraref05_Add).ntmps := by exact of_decide_eq_true rfl) : Good P F.penumbraref05_Add args [] r [] := goodOf Go.Proofs.Tryz.func68 (by kernel_rfl) (by kernel_rfl) md ha h
theorem penumbraref01_Zero {args : List V} {r : V} (h : ∀ C C2, CC C → CC2 C2 → wpF Ω ⟨tt, C, C2, md, 0, ro⟩ B.penumbraref01_Zero args (fun x => x = r)) (ha : args.length ≤ (B.penumbraref01_Zero).ntmps := by exact of_decide_eq_true rfl) : Good P F.penumbraref01_Zero args [] r [] := goodOf Go.Proofs.Tryz.func69 (by kernel_rfl) (by kernel_rfl) md ha h
theorem penumbraref03_Add {args : List V} {r : V} (h : ∀ C C2, CC C → CC2 C2 → wpF Ω ⟨tt, C, C2, md, 0, ro⟩ B.penumbraref03_Add args (fun x => x = r)) (ha : args.length ≤ (B.penumbraref03_Add).ntmps := by exact of_decide_eq_true rfl) : Good P F.penumbraref03_Add args [] r [] := goodOf Go.Proofs.Tryz.func70 (by kernel_rfl) (by kernel_rfl) md ha h
theorem penumbraref05_Cross {args : List V} {r : V} (h : ∀ C C2, CC C → CC2 C2 → wpF Ω ⟨tt, C, C2, md, 0, ro⟩ B.penumbraref05_Cross args (fun x => x = r)) (ha : args.length ≤ (B.penumbraref05_Cross).ntmps := by exact of_decide_eq_true rfl) : Good P F.penumbraref05_Cross args [] r [] := goodOf Go.Proofs.Tryz.func71 (by kernel_rfl) (by kernel_rfl) md ha h
theorem penumbraref08_None {args : List V} {r : V} (h : ∀ C C2, CC C → CC2 C2 → wpF Ω ⟨tt, C, C2, md, 0, ro⟩ B.penumbraref08_None args (fun x => x = r)) (ha : args.length ≤ (B.penumbraref08_None).ntmps := by exact of_decide_eq_true rfl) : Good P F.penumbraref08_None args [] r [] := goodOf Go.Proofs.Tryz.func72 (by kernel_rfl) (by kernel_rfl) md ha h
theorem penumbraref03_Cmp {args : List V} {r : V} (h : ∀ C C2, CC C → CC2 C2 → wpF Ω ⟨tt, C, C2, md, 0, ro⟩ B.penumbraref03_Cmp args (fun x => x = r)) (ha : args.length ≤ (B.penumbraref03_Cmp).ntmps := by exact of_decide_eq_true rfl) : Good P F.penumbraref03_Cmp args [] r [] := goodOf Go.Proofs.Tryz.func73 (by kernel_rfl) (by kernel_rfl) md ha h
theorem penumbraref05_Scale {args : List V} {r : V} (h : ∀ C C2, CC C → CC2 C2 → wpF Ω ⟨tt, C, C2, md, 0, ro⟩ B.penumbraref05_Scale args (fun x => x = r)) (ha : args.length ≤ (B.penumbraref05_Scale).ntmps := by exact of_decide_eq_true rfl) : Good P F.penumbraref05_Scale args [] r [] := goodOf Go.Proofs.Tryz.func74 (by kernel_rfl) (by kernel_rfl) md ha h
theorem penumbraref03_Read {args : List V} {r : V} (h : ∀ C C2, CC C → CC2 C2 → wpF Ω ⟨tt, C, C2, md, 0, ro⟩ B.penumbraref03_Read args (fun x => x = r)) (ha : args.length ≤ (B.penumbraref03_Read).ntmps := by exact of_decide_eq_true rfl) : Good P F.penumbraref03_Read args [] r [] := goodOf Go.Proofs.Tryz.func75 (by kernel_rfl) (by kernel_rfl) md ha h
theorem rat_Sub {args : List V} {r : V} (h : ∀ C C2, CC C → CC2 C2 → wpF Ω ⟨tt, C, C2, md, 0, ro⟩ B.rat_Sub args (fun x => x = r)) (ha : args.length ≤ (B.rat_Sub).ntmps := by exact of_decide_eq_true rfl) : Good P F.rat_Sub args [] r [] := goodOf Go.Proofs.Tryz.func76 (by kernel_rfl) (by kernel_rfl) md ha h
theorem vec_Sum {args : List V} {r : V} (h : ∀ C C2, CC C → CC2 C2 → wpF Ω ⟨tt, C, C2, md, 0, ro⟩ B.vec_Sum args (fun x => x = r)) (ha : args.length ≤ (B.vec_Sum).ntmps := by exact of_decide_eq_true rfl) : Good P F.vec_Sum args [] r [] := goodOf Go.Proofs.Tryz.func77 (by kernel_rfl) (by kernel_rfl) md ha h
theorem vec_minor {args : List V} {r : V} (h : ∀ C C2, CC C → CC2 C2 → wpF Ω ⟨tt, C, C2, md, 0, ro⟩ B.vec_minor args (fun x => x = r)) (ha : args.length ≤ (B.vec_minor).ntmps := by exact of_decide_eq_true rfl) : Good P F.vec_minor args [] r [] := goodOf Go.Proofs.Tryz.func78 (by kernel_rfl) (by kernel_rfl) md ha h
theorem penumbraref03_Zero {args : List V} {r : V} (h : ∀ C C2, CC C → CC2 C2 → wpF Ω ⟨tt, C, C2, md, 0, ro⟩ B.penumbraref03_Zero args (fun x => x = r)) (ha : args.length ≤ (B.penumbraref03_Zero).ntmps := by exact of_decide_eq_true rfl) : Good P F.penumbraref03_Zero args [] r [] := goodOf Go.Proofs.Tryz.func79 (by kernel_rfl) (by kernel_rfl) md ha h
theorem nat_Bits {args : List V} {r : V} (h : ∀ C C2, CC C → CC2 C2 → wpF Ω ⟨tt, C, C2, md, 0, ro⟩ B.nat_Bits args (fun x => x = r)) (ha : args.length ≤ (B.nat_Bits).ntmps := by exact of_decide_eq_true rfl) : Good P F.nat_Bits args [] r [] := goodOf Go.Proofs.Tryz.func80 (by kernel_rfl) (by kernel_rfl) md ha h
theorem rat_Sum {args : List V} {r : V} (h : ∀ C C2, CC C → CC2 C2 → wpF Ω ⟨tt, C, C2, md, 0, ro⟩ B.rat_Sum args (fun x => x = r)) (ha : args.length ≤ (B.rat_Sum).ntmps := by exact of_decide_eq_true rfl) : Good P F.rat_Sum args [] r [] := goodOf Go.Proofs.Tryz.func81 (by kernel_rfl) (by kernel_rfl) md ha h
theorem rat_made {args : List V} {r : V} (h : ∀ C C2, CC C → CC2 C2 → wpF Ω ⟨tt, C, C2, md, 0, ro⟩ B.rat_made args (fun x => x = r)) (ha : args.length ≤ (B.rat_made).ntmps := by exact of_decide_eq_true rfl) : Good P F.rat_made args [] r [] := goodOf Go.Proofs.Tryz.func82 (by kernel_rfl) (by kernel_rfl) md ha h
theorem rat_size {args : List V} {r : V} (h : ∀ C C2, CC C → CC2 C2 → wpF Ω ⟨tt, C, C2, md, 0, ro⟩ B.rat_size args (fun x => x = r)) (ha : args.length ≤ (B.rat_size).ntmps := by exact of_decide_eq_true rfl) : Good P F.rat_size args [] r [] := goodOf Go.Proofs.Tryz.func83 (by kernel_rfl) (by kernel_rfl) md ha h
theorem tri_sides {args : List V} {r : V} (h : ∀ C C2, CC C → CC2 C2 → wpF Ω ⟨tt, C, C2, md, 0, ro⟩ B.tri_sides args (fun x => x = r)) (ha : args.length ≤ (B.tri_sides).ntmps := by exact of_decide_eq_true rfl) : Good P F.tri_sides args [] r [] := goodOf Go.Proofs.Tryz.func84 (by kernel_rfl) (by kernel_rfl) md ha h
theorem rat_Div {args : List V} {r : V} (h : ∀ C C2, CC C → CC2 C2 → wpF Ω ⟨tt, C, C2, md, 0, ro⟩ B.rat_Div args (fun x => x = r)) (ha : args.length ≤ (B.rat_Div).ntmps := by exact of_decide_eq_true rfl) : Good P F.rat_Div args [] r [] := goodOf Go.Proofs.Tryz.func85 (by kernel_rfl) (by kernel_rfl) md ha h
theorem affine_Identity {args : List V} {r : V} (h : ∀ C C2, CC C → CC2 C2 → wpF Ω ⟨tt, C, C2, md, 0, ro⟩ B.affine_Identity args (fun x => x = r)) (ha : args.length ≤ (B.affine_Identity).ntmps := by exact of_decide_eq_true rfl) : Good P F.affine_Identity args [] r [] := goodOf Go.Proofs.Tryz.func86 (by kernel_rfl) (by kernel_rfl) md ha h
theorem scene_Check {args : List V} {r : V} (h : ∀ C C2, CC C → CC2 C2 → wpF Ω ⟨tt, C, C2, md, 0, ro⟩ B.scene_Check args (fun x => x = r)) (ha : args.length ≤ (B.scene_Check).ntmps := by exact of_decide_eq_true rfl) : Good P F.scene_Check args [] r [] := goodOf Go.Proofs.Tryz.func88 (by kernel_rfl) (by kernel_rfl) md ha h
theorem tri_Unit {args : List V} {r : V} (h : ∀ C C2, CC C → CC2 C2 → wpF Ω ⟨tt, C, C2, md, 0, ro⟩ B.tri_Unit args (fun x => x = r)) (ha : args.length ≤ (B.tri_Unit).ntmps := by exact of_decide_eq_true rfl) : Good P F.tri_Unit args [] r [] := goodOf Go.Proofs.Tryz.func89 (by kernel_rfl) (by kernel_rfl) md ha h
theorem bvh_Build {args : List V} {r : V} (h : ∀ C C2, CC C → CC2 C2 → wpF Ω ⟨tt, C, C2, md, 0, ro⟩ B.bvh_Build args (fun x => x = r)) (ha : args.length ≤ (B.bvh_Build).ntmps := by exact of_decide_eq_true rfl) : Good P F.bvh_Build args [] r [] := goodOf Go.Proofs.Tryz.func90 (by kernel_rfl) (by kernel_rfl) md ha h
theorem trace_Nearest {args : List V} {r : V} (h : ∀ C C2, CC C → CC2 C2 → wpF Ω ⟨tt, C, C2, md, 0, ro⟩ B.trace_Nearest args (fun x => x = r)) (ha : args.length ≤ (B.trace_Nearest).ntmps := by exact of_decide_eq_true rfl) : Good P F.trace_Nearest args [] r [] := goodOf Go.Proofs.Tryz.func91 (by kernel_rfl) (by kernel_rfl) md ha h
theorem tri_At {args : List V} {r : V} (h : ∀ C C2, CC C → CC2 C2 → wpF Ω ⟨tt, C, C2, md, 0, ro⟩ B.tri_At args (fun x => x = r)) (ha : args.length ≤ (B.tri_At).ntmps := by exact of_decide_eq_true rfl) : Good P F.tri_At args [] r [] := goodOf Go.Proofs.Tryz.func92 (by kernel_rfl) (by kernel_rfl) md ha h
theorem P_ready_Scene_Bend {args : List V} {bs bs' : List Blk} {r : V} (h : ∀ C C2, CC C → CC2 C2 → wpF2 Ω ⟨tt, C, C2, md, bs.length, ro⟩ B.P_ready_Scene_Bend args bs (fun x b => x = r ∧ b = bs')) (hb : bs.length ≤ 1000 := by decide) (ha : args.length ≤ (B.P_ready_Scene_Bend).ntmps := by exact of_decide_eq_true rfl) : Good P F.P_ready_Scene_Bend args bs r bs' := goodOf2 Go.Proofs.Tryz.func93 (by kernel_rfl) (by kernel_rfl) md hb ha h
theorem P_ready_Scene_Mat {args : List V} {bs bs' : List Blk} {r : V} (h : ∀ C C2, CC C → CC2 C2 → wpF2 Ω ⟨tt, C, C2, md, bs.length, ro⟩ B.P_ready_Scene_Mat args bs (fun x b => x = r ∧ b = bs')) (hb : bs.length ≤ 1000 := by decide) (ha : args.length ≤ (B.P_ready_Scene_Mat).ntmps := by exact of_decide_eq_true rfl) : Good P F.P_ready_Scene_Mat args bs r bs' := goodOf2 Go.Proofs.Tryz.func94 (by kernel_rfl) (by kernel_rfl) md hb ha h
theorem affine_Stretch {args : List V} {r : V} (h : ∀ C C2, CC C → CC2 C2 → wpF Ω ⟨tt, C, C2, md, 0, ro⟩ B.affine_Stretch args (fun x => x = r)) (ha : args.length ≤ (B.affine_Stretch).ntmps := by exact of_decide_eq_true rfl) : Good P F.affine_Stretch args [] r [] := goodOf Go.Proofs.Tryz.func95 (by kernel_rfl) (by kernel_rfl) md ha h
theorem affine_Then {args : List V} {r : V} (h : ∀ C C2, CC C → CC2 C2 → wpF Ω ⟨tt, C, C2, md, 0, ro⟩ B.affine_Then args (fun x => x = r)) (ha : args.length ≤ (B.affine_Then).ntmps := by exact of_decide_eq_true rfl) : Good P F.affine_Then args [] r [] := goodOf Go.Proofs.Tryz.func96 (by kernel_rfl) (by kernel_rfl) md ha h
theorem penumbraref09_Eta {args : List V} {r : V} (h : ∀ C C2, CC C → CC2 C2 → wpF Ω ⟨tt, C, C2, md, 0, ro⟩ B.penumbraref09_Eta args (fun x => x = r)) (ha : args.length ≤ (B.penumbraref09_Eta).ntmps := by exact of_decide_eq_true rfl) : Good P F.penumbraref09_Eta args [] r [] := goodOf Go.Proofs.Tryz.func97 (by kernel_rfl) (by kernel_rfl) md ha h
theorem penumbraref01_Mul {args : List V} {r : V} (h : ∀ C C2, CC C → CC2 C2 → wpF Ω ⟨tt, C, C2, md, 0, ro⟩ B.penumbraref01_Mul args (fun x => x = r)) (ha : args.length ≤ (B.penumbraref01_Mul).ntmps := by exact of_decide_eq_true rfl) : Good P F.penumbraref01_Mul args [] r [] := goodOf Go.Proofs.Tryz.func98 (by kernel_rfl) (by kernel_rfl) md ha h
theorem penumbraref07_Told {args : List V} {r : V} (h : ∀ C C2, CC C → CC2 C2 → wpF Ω ⟨tt, C, C2, md, 0, ro⟩ B.penumbraref07_Told args (fun x => x = r)) (ha : args.length ≤ (B.penumbraref07_Told).ntmps := by exact of_decide_eq_true rfl) : Good P F.penumbraref07_Told args [] r [] := goodOf Go.Proofs.Tryz.func99 (by kernel_rfl) (by kernel_rfl) md ha h
theorem penumbraref07_stretched {args : List V} {r : V} (h : ∀ C C2, CC C → CC2 C2 → wpF Ω ⟨tt, C, C2, md, 0, ro⟩ B.penumbraref07_stretched args (fun x => x = r)) (ha : args.length ≤ (B.penumbraref07_stretched).ntmps := by exact of_decide_eq_true rfl) : Good P F.penumbraref07_stretched args [] r [] := goodOf Go.Proofs.Tryz.func100 (by kernel_rfl) (by kernel_rfl) md ha h
theorem penumbraref07_Apply {args : List V} {r : V} (h : ∀ C C2, CC C → CC2 C2 → wpF Ω ⟨tt, C, C2, md, 0, ro⟩ B.penumbraref07_Apply args (fun x => x = r)) (ha : args.length ≤ (B.penumbraref07_Apply).ntmps := by exact of_decide_eq_true rfl) : Good P F.penumbraref07_Apply args [] r [] := goodOf Go.Proofs.Tryz.func101 (by kernel_rfl) (by kernel_rfl) md ha h
theorem penumbraref03_Div {args : List V} {r : V} (h : ∀ C C2, CC C → CC2 C2 → wpF Ω ⟨tt, C, C2, md, 0, ro⟩ B.penumbraref03_Div args (fun x => x = r)) (ha : args.length ≤ (B.penumbraref03_Div).ntmps := by exact of_decide_eq_true rfl) : Good P F.penumbraref03_Div args [] r [] := goodOf Go.Proofs.Tryz.func102 (by kernel_rfl) (by kernel_rfl) md ha h
theorem penumbraref09_Parse {args : List V} {r : V} (h : ∀ C C2, CC C → CC2 C2 → wpF Ω ⟨tt, C, C2, md, 0, ro⟩ B.penumbraref09_Parse args (fun x => x = r)) (ha : args.length ≤ (B.penumbraref09_Parse).ntmps := by exact of_decide_eq_true rfl) : Good P F.penumbraref09_Parse args [] r [] := goodOf Go.Proofs.Tryz.func103 (by kernel_rfl) (by kernel_rfl) md ha h
theorem penumbraref03_abs {args : List V} {r : V} (h : ∀ C C2, CC C → CC2 C2 → wpF Ω ⟨tt, C, C2, md, 0, ro⟩ B.penumbraref03_abs args (fun x => x = r)) (ha : args.length ≤ (B.penumbraref03_abs).ntmps := by exact of_decide_eq_true rfl) : Good P F.penumbraref03_abs args [] r [] := goodOf Go.Proofs.Tryz.func104 (by kernel_rfl) (by kernel_rfl) md ha h
theorem penumbraref01_Norm {args : List V} {r : V} (h : ∀ C C2, CC C → CC2 C2 → wpF Ω ⟨tt, C, C2, md, 0, ro⟩ B.penumbraref01_Norm args (fun x => x = r)) (ha : args.length ≤ (B.penumbraref01_Norm).ntmps := by exact of_decide_eq_true rfl) : Good P F.penumbraref01_Norm args [] r [] := goodOf Go.Proofs.Tryz.func105 (by kernel_rfl) (by kernel_rfl) md ha h
theorem penumbraref05_Unit {args : List V} {r : V} (h : ∀ C C2, CC C → CC2 C2 → wpF Ω ⟨tt, C, C2, md, 0, ro⟩ B.penumbraref05_Unit args (fun x => x = r)) (ha : args.length ≤ (B.penumbraref05_Unit).ntmps := by exact of_decide_eq_true rfl) : Good P F.penumbraref05_Unit args [] r [] := goodOf Go.Proofs.Tryz.func106 (by kernel_rfl) (by kernel_rfl) md ha h
theorem nat_Mul {args : List V} {r : V} (h : ∀ C C2, CC C → CC2 C2 → wpF Ω ⟨tt, C, C2, md, 0, ro⟩ B.nat_Mul args (fun x => x = r)) (ha : args.length ≤ (B.nat_Mul).ntmps := by exact of_decide_eq_true rfl) : Good P F.nat_Mul args [] r [] := goodOf Go.Proofs.Tryz.func107 (by kernel_rfl) (by kernel_rfl) md ha h
theorem penumbraref03_Sub {args : List V} {r : V} (h : ∀ C C2, CC C → CC2 C2 → wpF Ω ⟨tt, C, C2, md, 0, ro⟩ B.penumbraref03_Sub args (fun x => x = r)) (ha : args.length ≤ (B.penumbraref03_Sub).ntmps := by exact of_decide_eq_true rfl) : Good P F.penumbraref03_Sub args [] r [] := goodOf Go.Proofs.Tryz.func108 (by kernel_rfl) (by kernel_rfl) md ha h
theorem penumbraref01_Cmp {args : List V} {r : V} (h : ∀ C C2, CC C → CC2 C2 → wpF Ω ⟨tt, C, C2, md, 0, ro⟩ B.penumbraref01_Cmp args (fun x => x = r)) (ha : args.length ≤ (B.penumbraref01_Cmp).ntmps := by exact of_decide_eq_true rfl) : Good P F.penumbraref01_Cmp args [] r [] := goodOf Go.Proofs.Tryz.func109 (by kernel_rfl) (by kernel_rfl) md ha h
theorem penumbraref01_Add {args : List V} {r : V} (h : ∀ C C2, CC C → CC2 C2 → wpF Ω ⟨tt, C, C2, md, 0, ro⟩ B.penumbraref01_Add args (fun x => x = r)) (ha : args.length ≤ (B.penumbraref01_Add).ntmps := by exact of_decide_eq_true rfl) : Good P F.penumbraref01_Add args [] r [] := goodOf Go.Proofs.Tryz.func110 (by kernel_rfl) (by kernel_rfl) md ha h
theorem penumbraref01_Sub {args : List V} {r : V} (h : ∀ C C2, CC C → CC2 C2 → wpF Ω ⟨tt, C, C2, md, 0, ro⟩ B.penumbraref01_Sub args (fun x => x = r)) (ha : args.length ≤ (B.penumbraref01_Sub).ntmps := by exact of_decide_eq_true rfl) : Good P F.penumbraref01_Sub args [] r [] := goodOf Go.Proofs.Tryz.func111 (by kernel_rfl) (by kernel_rfl) md ha h
theorem penumbraref02_Gcd {args : List V} {r : V} (h : ∀ C C2, CC C → CC2 C2 → wpF Ω ⟨tt, C, C2, md, 0, ro⟩ B.penumbraref02_Gcd args (fun x => x = r)) (ha : args.length ≤ (B.penumbraref02_Gcd).ntmps := by exact of_decide_eq_true rfl) : Good P F.penumbraref02_Gcd args [] r [] := goodOf Go.Proofs.Tryz.func112 (by kernel_rfl) (by kernel_rfl) md ha h
theorem penumbraref01_DivMod {args : List V} {r : V} (h : ∀ C C2, CC C → CC2 C2 → wpF Ω ⟨tt, C, C2, md, 0, ro⟩ B.penumbraref01_DivMod args (fun x => x = r)) (ha : args.length ≤ (B.penumbraref01_DivMod).ntmps := by exact of_decide_eq_true rfl) : Good P F.penumbraref01_DivMod args [] r [] := goodOf Go.Proofs.Tryz.func113 (by kernel_rfl) (by kernel_rfl) md ha h
theorem rat_plus {args : List V} {r : V} (h : ∀ C C2, CC C → CC2 C2 → wpF Ω ⟨tt, C, C2, md, 0, ro⟩ B.rat_plus args (fun x => x = r)) (ha : args.length ≤ (B.rat_plus).ntmps := by exact of_decide_eq_true rfl) : Good P F.rat_plus args [] r [] := goodOf Go.Proofs.Tryz.func114 (by kernel_rfl) (by kernel_rfl) md ha h
theorem nat_trim {args : List V} {r : V} (h : ∀ C C2, CC C → CC2 C2 → wpF Ω ⟨tt, C, C2, md, 0, ro⟩ B.nat_trim args (fun x => x = r)) (ha : args.length ≤ (B.nat_trim).ntmps := by exact of_decide_eq_true rfl) : Good P F.nat_trim args [] r [] := goodOf Go.Proofs.Tryz.func115 (by kernel_rfl) (by kernel_rfl) md ha h
theorem math_bits_LeadingZeros32 {args : List V} {r : V} (h : ∀ C C2, CC C → CC2 C2 → wpF Ω ⟨tt, C, C2, md, 0, ro⟩ B.math_bits_LeadingZeros32 args (fun x => x = r)) (ha : args.length ≤ (B.math_bits_LeadingZeros32).ntmps := by exact of_decide_eq_true rfl) : Good P F.math_bits_LeadingZeros32 args [] r [] := goodOf Go.Proofs.Tryz.func116 (by kernel_rfl) (by kernel_rfl) md ha h
theorem nat_Norm {args : List V} {r : V} (h : ∀ C C2, CC C → CC2 C2 → wpF Ω ⟨tt, C, C2, md, 0, ro⟩ B.nat_Norm args (fun x => x = r)) (ha : args.length ≤ (B.nat_Norm).ntmps := by exact of_decide_eq_true rfl) : Good P F.nat_Norm args [] r [] := goodOf Go.Proofs.Tryz.func117 (by kernel_rfl) (by kernel_rfl) md ha h
theorem root_Gcd {args : List V} {r : V} (h : ∀ C C2, CC C → CC2 C2 → wpF Ω ⟨tt, C, C2, md, 0, ro⟩ B.root_Gcd args (fun x => x = r)) (ha : args.length ≤ (B.root_Gcd).ntmps := by exact of_decide_eq_true rfl) : Good P F.root_Gcd args [] r [] := goodOf Go.Proofs.Tryz.func118 (by kernel_rfl) (by kernel_rfl) md ha h
theorem nat_DivMod {args : List V} {r : V} (h : ∀ C C2, CC C → CC2 C2 → wpF Ω ⟨tt, C, C2, md, 0, ro⟩ B.nat_DivMod args (fun x => x = r)) (ha : args.length ≤ (B.nat_DivMod).ntmps := by exact of_decide_eq_true rfl) : Good P F.nat_DivMod args [] r [] := goodOf Go.Proofs.Tryz.func119 (by kernel_rfl) (by kernel_rfl) md ha h
theorem nat_Of {args : List V} {r : V} (h : ∀ C C2, CC C → CC2 C2 → wpF Ω ⟨tt, C, C2, md, 0, ro⟩ B.nat_Of args (fun x => x = r)) (ha : args.length ≤ (B.nat_Of).ntmps := by exact of_decide_eq_true rfl) : Good P F.nat_Of args [] r [] := goodOf Go.Proofs.Tryz.func120 (by kernel_rfl) (by kernel_rfl) md ha h
theorem scene_sizes {args : List V} {r : V} (h : ∀ C C2, CC C → CC2 C2 → wpF Ω ⟨tt, C, C2, md, 0, ro⟩ B.scene_sizes args (fun x => x = r)) (ha : args.length ≤ (B.scene_sizes).ntmps := by exact of_decide_eq_true rfl) : Good P F.scene_sizes args [] r [] := goodOf Go.Proofs.Tryz.func121 (by kernel_rfl) (by kernel_rfl) md ha h
theorem scene_material {args : List V} {r : V} (h : ∀ C C2, CC C → CC2 C2 → wpF Ω ⟨tt, C, C2, md, 0, ro⟩ B.scene_material args (fun x => x = r)) (ha : args.length ≤ (B.scene_material).ntmps := by exact of_decide_eq_true rfl) : Good P F.scene_material args [] r [] := goodOf Go.Proofs.Tryz.func122 (by kernel_rfl) (by kernel_rfl) md ha h
theorem rat_Same {args : List V} {r : V} (h : ∀ C C2, CC C → CC2 C2 → wpF Ω ⟨tt, C, C2, md, 0, ro⟩ B.rat_Same args (fun x => x = r)) (ha : args.length ≤ (B.rat_Same).ntmps := by exact of_decide_eq_true rfl) : Good P F.rat_Same args [] r [] := goodOf Go.Proofs.Tryz.func123 (by kernel_rfl) (by kernel_rfl) md ha h
theorem vec_Unit {args : List V} {r : V} (h : ∀ C C2, CC C → CC2 C2 → wpF Ω ⟨tt, C, C2, md, 0, ro⟩ B.vec_Unit args (fun x => x = r)) (ha : args.length ≤ (B.vec_Unit).ntmps := by exact of_decide_eq_true rfl) : Good P F.vec_Unit args [] r [] := goodOf Go.Proofs.Tryz.func124 (by kernel_rfl) (by kernel_rfl) md ha h
theorem bvh_around {args : List V} {r : V} (h : ∀ C C2, CC C → CC2 C2 → wpF Ω ⟨tt, C, C2, md, 0, ro⟩ B.bvh_around args (fun x => x = r)) (ha : args.length ≤ (B.bvh_around).ntmps := by exact of_decide_eq_true rfl) : Good P F.bvh_around args [] r [] := goodOf Go.Proofs.Tryz.func125 (by kernel_rfl) (by kernel_rfl) md ha h
theorem P_bvh_builder_node {args : List V} {bs bs' : List Blk} {r : V} (h : ∀ C C2, CC C → CC2 C2 → wpF2 Ω ⟨tt, C, C2, md, bs.length, ro⟩ B.P_bvh_builder_node args bs (fun x b => x = r ∧ b = bs')) (hb : bs.length ≤ 1000 := by decide) (ha : args.length ≤ (B.P_bvh_builder_node).ntmps := by exact of_decide_eq_true rfl) : Good P F.P_bvh_builder_node args bs r bs' := goodOf2 Go.Proofs.Tryz.func126 (by kernel_rfl) (by kernel_rfl) md hb ha h
theorem P_trace_walker_node {args : List V} {bs bs' : List Blk} {r : V} (h : ∀ C C2, CC C → CC2 C2 → wpF2 Ω ⟨tt, C, C2, md, bs.length, ro⟩ B.P_trace_walker_node args bs (fun x b => x = r ∧ b = bs')) (hb : bs.length ≤ 1000 := by decide) (ha : args.length ≤ (B.P_trace_walker_node).ntmps := by exact of_decide_eq_true rfl) : Good P F.P_trace_walker_node args bs r bs' := goodOf2 Go.Proofs.Tryz.func127 (by kernel_rfl) (by kernel_rfl) md hb ha h
theorem scene_Eta {args : List V} {r : V} (h : ∀ C C2, CC C → CC2 C2 → wpF Ω ⟨tt, C, C2, md, 0, ro⟩ B.scene_Eta args (fun x => x = r)) (ha : args.length ≤ (B.scene_Eta).ntmps := by exact of_decide_eq_true rfl) : Good P F.scene_Eta args [] r [] := goodOf Go.Proofs.Tryz.func128 (by kernel_rfl) (by kernel_rfl) md ha h
theorem rat_Neg {args : List V} {r : V} (h : ∀ C C2, CC C → CC2 C2 → wpF Ω ⟨tt, C, C2, md, 0, ro⟩ B.rat_Neg args (fun x => x = r)) (ha : args.length ≤ (B.rat_Neg).ntmps := by exact of_decide_eq_true rfl) : Good P F.rat_Neg args [] r [] := goodOf Go.Proofs.Tryz.func129 (by kernel_rfl) (by kernel_rfl) md ha h
theorem affine_columns {args : List V} {r : V} (h : ∀ C C2, CC C → CC2 C2 → wpF Ω ⟨tt, C, C2, md, 0, ro⟩ B.affine_columns args (fun x => x = r)) (ha : args.length ≤ (B.affine_columns).ntmps := by exact of_decide_eq_true rfl) : Good P F.affine_columns args [] r [] := goodOf Go.Proofs.Tryz.func130 (by kernel_rfl) (by kernel_rfl) md ha h
theorem affine_Then_1 {args : List V} {bs bs' : List Blk} {r : V} (h : ∀ C C2, CC C → CC2 C2 → wpF2 Ω ⟨tt, C, C2, md, bs.length, ro⟩ B.affine_Then_1 args bs (fun x b => x = r ∧ b = bs')) (hb : bs.length ≤ 1000 := by decide) (ha : args.length ≤ (B.affine_Then_1).ntmps := by exact of_decide_eq_true rfl) : Good P F.affine_Then_1 args bs r bs' := goodOf2 Go.Proofs.Tryz.func131 (by kernel_rfl) (by kernel_rfl) md hb ha h
theorem penumbraref09_Lines {args : List V} {r : V} (h : ∀ C C2, CC C → CC2 C2 → wpF Ω ⟨tt, C, C2, md, 0, ro⟩ B.penumbraref09_Lines args (fun x => x = r)) (ha : args.length ≤ (B.penumbraref09_Lines).ntmps := by exact of_decide_eq_true rfl) : Good P F.penumbraref09_Lines args [] r [] := goodOf Go.Proofs.Tryz.func132 (by kernel_rfl) (by kernel_rfl) md ha h
theorem penumbraref09_Words {args : List V} {r : V} (h : ∀ C C2, CC C → CC2 C2 → wpF Ω ⟨tt, C, C2, md, 0, ro⟩ B.penumbraref09_Words args (fun x => x = r)) (ha : args.length ≤ (B.penumbraref09_Words).ntmps := by exact of_decide_eq_true rfl) : Good P F.penumbraref09_Words args [] r [] := goodOf Go.Proofs.Tryz.func133 (by kernel_rfl) (by kernel_rfl) md ha h
theorem penumbraref09_line {args : List V} {bs bs' : List Blk} {r : V} (h : ∀ C C2, CC C → CC2 C2 → wpF2 Ω ⟨tt, C, C2, md, bs.length, ro⟩ B.penumbraref09_line args bs (fun x b => x = r ∧ b = bs')) (hb : bs.length ≤ 1000 := by decide) (ha : args.length ≤ (B.penumbraref09_line).ntmps := by exact of_decide_eq_true rfl) : Good P F.penumbraref09_line args bs r bs' := goodOf2 Go.Proofs.Tryz.func134 (by kernel_rfl) (by kernel_rfl) md hb ha h
theorem penumbraref01_Of {args : List V} {r : V} (h : ∀ C C2, CC C → CC2 C2 → wpF Ω ⟨tt, C, C2, md, 0, ro⟩ B.penumbraref01_Of args (fun x => x = r)) (ha : args.length ≤ (B.penumbraref01_Of).ntmps := by exact of_decide_eq_true rfl) : Good P F.penumbraref01_Of args [] r [] := goodOf Go.Proofs.Tryz.func135 (by kernel_rfl) (by kernel_rfl) md ha h
theorem penumbraref03_Sqrt {args : List V} {r : V} (h : ∀ C C2, CC C → CC2 C2 → wpF Ω ⟨tt, C, C2, md, 0, ro⟩ B.penumbraref03_Sqrt args (fun x => x = r)) (ha : args.length ≤ (B.penumbraref03_Sqrt).ntmps := by exact of_decide_eq_true rfl) : Good P F.penumbraref03_Sqrt args [] r [] := goodOf Go.Proofs.Tryz.func136 (by kernel_rfl) (by kernel_rfl) md ha h
theorem penumbraref03_Neg {args : List V} {r : V} (h : ∀ C C2, CC C → CC2 C2 → wpF Ω ⟨tt, C, C2, md, 0, ro⟩ B.penumbraref03_Neg args (fun x => x = r)) (ha : args.length ≤ (B.penumbraref03_Neg).ntmps := by exact of_decide_eq_true rfl) : Good P F.penumbraref03_Neg args [] r [] := goodOf Go.Proofs.Tryz.func137 (by kernel_rfl) (by kernel_rfl) md ha h
theorem penumbraref01_limb {args : List V} {r : V} (h : ∀ C C2, CC C → CC2 C2 → wpF Ω ⟨tt, C, C2, md, 0, ro⟩ B.penumbraref01_limb args (fun x => x = r)) (ha : args.length ≤ (B.penumbraref01_limb).ntmps := by exact of_decide_eq_true rfl) : Good P F.penumbraref01_limb args [] r [] := goodOf Go.Proofs.Tryz.func138 (by kernel_rfl) (by kernel_rfl) md ha h
theorem penumbraref01_Double {args : List V} {r : V} (h : ∀ C C2, CC C → CC2 C2 → wpF Ω ⟨tt, C, C2, md, 0, ro⟩ B.penumbraref01_Double args (fun x => x = r)) (ha : args.length ≤ (B.penumbraref01_Double).ntmps := by exact of_decide_eq_true rfl) : Good P F.penumbraref01_Double args [] r [] := goodOf Go.Proofs.Tryz.func139 (by kernel_rfl) (by kernel_rfl) md ha h
theorem penumbraref01_at {args : List V} {r : V} (h : ∀ C C2, CC C → CC2 C2 → wpF Ω ⟨tt, C, C2, md, 0, ro⟩ B.penumbraref01_at args (fun x => x = r)) (ha : args.length ≤ (B.penumbraref01_at).ntmps := by exact of_decide_eq_true rfl) : Good P F.penumbraref01_at args [] r [] := goodOf Go.Proofs.Tryz.func140 (by kernel_rfl) (by kernel_rfl) md ha h
theorem penumbraref01_Half {args : List V} {r : V} (h : ∀ C C2, CC C → CC2 C2 → wpF Ω ⟨tt, C, C2, md, 0, ro⟩ B.penumbraref01_Half args (fun x => x = r)) (ha : args.length ≤ (B.penumbraref01_Half).ntmps := by exact of_decide_eq_true rfl) : Good P F.penumbraref01_Half args [] r [] := goodOf Go.Proofs.Tryz.func141 (by kernel_rfl) (by kernel_rfl) md ha h
theorem rat_whole {args : List V} {r : V} (h : ∀ C C2, CC C → CC2 C2 → wpF Ω ⟨tt, C, C2, md, 0, ro⟩ B.rat_whole args (fun x => x = r)) (ha : args.length ≤ (B.rat_whole).ntmps := by exact of_decide_eq_true rfl) : Good P F.rat_whole args [] r [] := goodOf Go.Proofs.Tryz.func142 (by kernel_rfl) (by kernel_rfl) md ha h
theorem nat_Add {args : List V} {r : V} (h : ∀ C C2, CC C → CC2 C2 → wpF Ω ⟨tt, C, C2, md, 0, ro⟩ B.nat_Add args (fun x => x = r)) (ha : args.length ≤ (B.nat_Add).ntmps := by exact of_decide_eq_true rfl) : Good P F.nat_Add args [] r [] := goodOf Go.Proofs.Tryz.func143 (by kernel_rfl) (by kernel_rfl) md ha h
theorem nat_Sub {args : List V} {r : V} (h : ∀ C C2, CC C → CC2 C2 → wpF Ω ⟨tt, C, C2, md, 0, ro⟩ B.nat_Sub args (fun x => x = r)) (ha : args.length ≤ (B.nat_Sub).ntmps := by exact of_decide_eq_true rfl) : Good P F.nat_Sub args [] r [] := goodOf Go.Proofs.Tryz.func144 (by kernel_rfl) (by kernel_rfl) md ha h
theorem math_bits_Len32 {args : List V} {r : V} (h : ∀ C C2, CC C → CC2 C2 → wpF Ω ⟨tt, C, C2, md, 0, ro⟩ B.math_bits_Len32 args (fun x => x = r)) (ha : args.length ≤ (B.math_bits_Len32).ntmps := by exact of_decide_eq_true rfl) : Good P F.math_bits_Len32 args [] r [] := goodOf Go.Proofs.Tryz.func145 (by kernel_rfl) (by kernel_rfl) md ha h
theorem slices_Clone_L_uint32_uint32 {args : List V} {r : V} (h : ∀ C C2, CC C → CC2 C2 → wpF Ω ⟨tt, C, C2, md, 0, ro⟩ B.slices_Clone_L_uint32_uint32 args (fun x => x = r)) (ha : args.length ≤ (B.slices_Clone_L_uint32_uint32).ntmps := by exact of_decide_eq_true rfl) : Good P F.slices_Clone_L_uint32_uint32 args [] r [] := goodOf Go.Proofs.Tryz.func146 (by kernel_rfl) (by kernel_rfl) md ha h
theorem nat_Cmp {args : List V} {r : V} (h : ∀ C C2, CC C → CC2 C2 → wpF Ω ⟨tt, C, C2, md, 0, ro⟩ B.nat_Cmp args (fun x => x = r)) (ha : args.length ≤ (B.nat_Cmp).ntmps := by exact of_decide_eq_true rfl) : Good P F.nat_Cmp args [] r [] := goodOf Go.Proofs.Tryz.func147 (by kernel_rfl) (by kernel_rfl) md ha h
theorem nat_small {args : List V} {r : V} (h : ∀ C C2, CC C → CC2 C2 → wpF Ω ⟨tt, C, C2, md, 0, ro⟩ B.nat_small args (fun x => x = r)) (ha : args.length ≤ (B.nat_small).ntmps := by exact of_decide_eq_true rfl) : Good P F.nat_small args [] r [] := goodOf Go.Proofs.Tryz.func148 (by kernel_rfl) (by kernel_rfl) md ha h
theorem nat_long {args : List V} {r : V} (h : ∀ C C2, CC C → CC2 C2 → wpF Ω ⟨tt, C, C2, md, 0, ro⟩ B.nat_long args (fun x => x = r)) (ha : args.length ≤ (B.nat_long).ntmps := by exact of_decide_eq_true rfl) : Good P F.nat_long args [] r [] := goodOf Go.Proofs.Tryz.func149 (by kernel_rfl) (by kernel_rfl) md ha h
theorem scene_fits {args : List V} {r : V} (h : ∀ C C2, CC C → CC2 C2 → wpF Ω ⟨tt, C, C2, md, 0, ro⟩ B.scene_fits args (fun x => x = r)) (ha : args.length ≤ (B.scene_fits).ntmps := by exact of_decide_eq_true rfl) : Good P F.scene_fits args [] r [] := goodOf Go.Proofs.Tryz.func150 (by kernel_rfl) (by kernel_rfl) md ha h
theorem scene_fit {args : List V} {r : V} (h : ∀ C C2, CC C → CC2 C2 → wpF Ω ⟨tt, C, C2, md, 0, ro⟩ B.scene_fit args (fun x => x = r)) (ha : args.length ≤ (B.scene_fit).ntmps := by exact of_decide_eq_true rfl) : Good P F.scene_fit args [] r [] := goodOf Go.Proofs.Tryz.func151 (by kernel_rfl) (by kernel_rfl) md ha h
theorem rat_Cmp {args : List V} {r : V} (h : ∀ C C2, CC C → CC2 C2 → wpF Ω ⟨tt, C, C2, md, 0, ro⟩ B.rat_Cmp args (fun x => x = r)) (ha : args.length ≤ (B.rat_Cmp).ntmps := by exact of_decide_eq_true rfl) : Good P F.rat_Cmp args [] r [] := goodOf Go.Proofs.Tryz.func152 (by kernel_rfl) (by kernel_rfl) md ha h
theorem rat_Sqrt {args : List V} {r : V} (h : ∀ C C2, CC C → CC2 C2 → wpF Ω ⟨tt, C, C2, md, 0, ro⟩ B.rat_Sqrt args (fun x => x = r)) (ha : args.length ≤ (B.rat_Sqrt).ntmps := by exact of_decide_eq_true rfl) : Good P F.rat_Sqrt args [] r [] := goodOf Go.Proofs.Tryz.func153 (by kernel_rfl) (by kernel_rfl) md ha h
theorem boxes_Around {args : List V} {r : V} (h : ∀ C C2, CC C → CC2 C2 → wpF Ω ⟨tt, C, C2, md, 0, ro⟩ B.boxes_Around args (fun x => x = r)) (ha : args.length ≤ (B.boxes_Around).ntmps := by exact of_decide_eq_true rfl) : Good P F.boxes_Around args [] r [] := goodOf Go.Proofs.Tryz.func154 (by kernel_rfl) (by kernel_rfl) md ha h
theorem boxes_Join {args : List V} {r : V} (h : ∀ C C2, CC C → CC2 C2 → wpF Ω ⟨tt, C, C2, md, 0, ro⟩ B.boxes_Join args (fun x => x = r)) (ha : args.length ≤ (B.boxes_Join).ntmps := by exact of_decide_eq_true rfl) : Good P F.boxes_Join args [] r [] := goodOf Go.Proofs.Tryz.func155 (by kernel_rfl) (by kernel_rfl) md ha h
theorem P_bvh_builder_part {args : List V} {bs bs' : List Blk} {r : V} (h : ∀ C C2, CC C → CC2 C2 → wpF2 Ω ⟨tt, C, C2, md, bs.length, ro⟩ B.P_bvh_builder_part args bs (fun x b => x = r ∧ b = bs')) (hb : bs.length ≤ 1000 := by decide) (ha : args.length ≤ (B.P_bvh_builder_part).ntmps := by exact of_decide_eq_true rfl) : Good P F.P_bvh_builder_part args bs r bs' := goodOf2 Go.Proofs.Tryz.func156 (by kernel_rfl) (by kernel_rfl) md hb ha h
theorem P_bvh_builder_widest {args : List V} {bs bs' : List Blk} {r : V} (h : ∀ C C2, CC C → CC2 C2 → wpF2 Ω ⟨tt, C, C2, md, bs.length, ro⟩ B.P_bvh_builder_widest args bs (fun x b => x = r ∧ b = bs')) (hb : bs.length ≤ 1000 := by decide) (ha : args.length ≤ (B.P_bvh_builder_widest).ntmps := by exact of_decide_eq_true rfl) : Good P F.P_bvh_builder_widest args bs r bs' := goodOf2 Go.Proofs.Tryz.func157 (by kernel_rfl) (by kernel_rfl) md hb ha h
theorem boxes_Clip {args : List V} {r : V} (h : ∀ C C2, CC C → CC2 C2 → wpF Ω ⟨tt, C, C2, md, 0, ro⟩ B.boxes_Clip args (fun x => x = r)) (ha : args.length ≤ (B.boxes_Clip).ntmps := by exact of_decide_eq_true rfl) : Good P F.boxes_Clip args [] r [] := goodOf Go.Proofs.Tryz.func158 (by kernel_rfl) (by kernel_rfl) md ha h
theorem P_trace_walker_past {args : List V} {bs bs' : List Blk} {r : V} (h : ∀ C C2, CC C → CC2 C2 → wpF2 Ω ⟨tt, C, C2, md, bs.length, ro⟩ B.P_trace_walker_past args bs (fun x b => x = r ∧ b = bs')) (hb : bs.length ≤ 1000 := by decide) (ha : args.length ≤ (B.P_trace_walker_past).ntmps := by exact of_decide_eq_true rfl) : Good P F.P_trace_walker_past args bs r bs' := goodOf2 Go.Proofs.Tryz.func159 (by kernel_rfl) (by kernel_rfl) md hb ha h
theorem P_trace_walker_leaf {args : List V} {bs bs' : List Blk} {r : V} (h : ∀ C C2, CC C → CC2 C2 → wpF2 Ω ⟨tt, C, C2, md, bs.length, ro⟩ B.P_trace_walker_leaf args bs (fun x b => x = r ∧ b = bs')) (hb : bs.length ≤ 1000 := by decide) (ha : args.length ≤ (B.P_trace_walker_leaf).ntmps := by exact of_decide_eq_true rfl) : Good P F.P_trace_walker_leaf args bs r bs' := goodOf2 Go.Proofs.Tryz.func160 (by kernel_rfl) (by kernel_rfl) md hb ha h
theorem penumbraref09_place {args : List V} {r : V} (h : ∀ C C2, CC C → CC2 C2 → wpF Ω ⟨tt, C, C2, md, 0, ro⟩ B.penumbraref09_place args (fun x => x = r)) (ha : args.length ≤ (B.penumbraref09_place).ntmps := by exact of_decide_eq_true rfl) : Good P F.penumbraref09_place args [] r [] := goodOf Go.Proofs.Tryz.func161 (by kernel_rfl) (by kernel_rfl) md ha h
theorem penumbraref09_numbers {args : List V} {r : V} (h : ∀ C C2, CC C → CC2 C2 → wpF Ω ⟨tt, C, C2, md, 0, ro⟩ B.penumbraref09_numbers args (fun x => x = r)) (ha : args.length ≤ (B.penumbraref09_numbers).ntmps := by exact of_decide_eq_true rfl) : Good P F.penumbraref09_numbers args [] r [] := goodOf Go.Proofs.Tryz.func162 (by kernel_rfl) (by kernel_rfl) md ha h
theorem penumbraref09_whole {args : List V} {r : V} (h : ∀ C C2, CC C → CC2 C2 → wpF Ω ⟨tt, C, C2, md, 0, ro⟩ B.penumbraref09_whole args (fun x => x = r)) (ha : args.length ≤ (B.penumbraref09_whole).ntmps := by exact of_decide_eq_true rfl) : Good P F.penumbraref09_whole args [] r [] := goodOf Go.Proofs.Tryz.func163 (by kernel_rfl) (by kernel_rfl) md ha h
theorem penumbraref09_vec {args : List V} {r : V} (h : ∀ C C2, CC C → CC2 C2 → wpF Ω ⟨tt, C, C2, md, 0, ro⟩ B.penumbraref09_vec args (fun x => x = r)) (ha : args.length ≤ (B.penumbraref09_vec).ntmps := by exact of_decide_eq_true rfl) : Good P F.penumbraref09_vec args [] r [] := goodOf Go.Proofs.Tryz.func164 (by kernel_rfl) (by kernel_rfl) md ha h
theorem penumbraref02_Sqrt {args : List V} {r : V} (h : ∀ C C2, CC C → CC2 C2 → wpF Ω ⟨tt, C, C2, md, 0, ro⟩ B.penumbraref02_Sqrt args (fun x => x = r)) (ha : args.length ≤ (B.penumbraref02_Sqrt).ntmps := by exact of_decide_eq_true rfl) : Good P F.penumbraref02_Sqrt args [] r [] := goodOf Go.Proofs.Tryz.func165 (by kernel_rfl) (by kernel_rfl) md ha h
theorem math_bits_Add32 {args : List V} {r : V} (h : ∀ C C2, CC C → CC2 C2 → wpF Ω ⟨tt, C, C2, md, 0, ro⟩ B.math_bits_Add32 args (fun x => x = r)) (ha : args.length ≤ (B.math_bits_Add32).ntmps := by exact of_decide_eq_true rfl) : Good P F.math_bits_Add32 args [] r [] := goodOf Go.Proofs.Tryz.func166 (by kernel_rfl) (by kernel_rfl) md ha h
theorem math_bits_Sub32 {args : List V} {r : V} (h : ∀ C C2, CC C → CC2 C2 → wpF Ω ⟨tt, C, C2, md, 0, ro⟩ B.math_bits_Sub32 args (fun x => x = r)) (ha : args.length ≤ (B.math_bits_Sub32).ntmps := by exact of_decide_eq_true rfl) : Good P F.math_bits_Sub32 args [] r [] := goodOf Go.Proofs.Tryz.func167 (by kernel_rfl) (by kernel_rfl) md ha h
theorem math_bits_Div32 {args : List V} {r : V} (h : ∀ C C2, CC C → CC2 C2 → wpF Ω ⟨tt, C, C2, md, 0, ro⟩ B.math_bits_Div32 args (fun x => x = r)) (ha : args.length ≤ (B.math_bits_Div32).ntmps := by exact of_decide_eq_true rfl) : Good P F.math_bits_Div32 args [] r [] := goodOf Go.Proofs.Tryz.func168 (by kernel_rfl) (by kernel_rfl) md ha h
theorem nat_Shl {args : List V} {r : V} (h : ∀ C C2, CC C → CC2 C2 → wpF Ω ⟨tt, C, C2, md, 0, ro⟩ B.nat_Shl args (fun x => x = r)) (ha : args.length ≤ (B.nat_Shl).ntmps := by exact of_decide_eq_true rfl) : Good P F.nat_Shl args [] r [] := goodOf Go.Proofs.Tryz.func169 (by kernel_rfl) (by kernel_rfl) md ha h
theorem nat_less {args : List V} {bs bs' : List Blk} {r : V} (h : ∀ C C2, CC C → CC2 C2 → wpF2 Ω ⟨tt, C, C2, md, bs.length, ro⟩ B.nat_less args bs (fun x b => x = r ∧ b = bs')) (hb : bs.length ≤ 1000 := by decide) (ha : args.length ≤ (B.nat_less).ntmps := by exact of_decide_eq_true rfl) : Good P F.nat_less args bs r bs' := goodOf2 Go.Proofs.Tryz.func170 (by kernel_rfl) (by kernel_rfl) md hb ha h
theorem nat_back {args : List V} {bs bs' : List Blk} {r : V} (h : ∀ C C2, CC C → CC2 C2 → wpF2 Ω ⟨tt, C, C2, md, bs.length, ro⟩ B.nat_back args bs (fun x b => x = r ∧ b = bs')) (hb : bs.length ≤ 1000 := by decide) (ha : args.length ≤ (B.nat_back).ntmps := by exact of_decide_eq_true rfl) : Good P F.nat_back args bs r bs' := goodOf2 Go.Proofs.Tryz.func171 (by kernel_rfl) (by kernel_rfl) md hb ha h
theorem nat_shr {args : List V} {r : V} (h : ∀ C C2, CC C → CC2 C2 → wpF Ω ⟨tt, C, C2, md, 0, ro⟩ B.nat_shr args (fun x => x = r)) (ha : args.length ≤ (B.nat_shr).ntmps := by exact of_decide_eq_true rfl) : Good P F.nat_shr args [] r [] := goodOf Go.Proofs.Tryz.func172 (by kernel_rfl) (by kernel_rfl) md ha h
theorem rat_Check {args : List V} {r : V} (h : ∀ C C2, CC C → CC2 C2 → wpF Ω ⟨tt, C, C2, md, 0, ro⟩ B.rat_Check args (fun x => x = r)) (ha : args.length ≤ (B.rat_Check).ntmps := by exact of_decide_eq_true rfl) : Good P F.rat_Check args [] r [] := goodOf Go.Proofs.Tryz.func173 (by kernel_rfl) (by kernel_rfl) md ha h
theorem root_Sqrt {args : List V} {r : V} (h : ∀ C C2, CC C → CC2 C2 → wpF Ω ⟨tt, C, C2, md, 0, ro⟩ B.root_Sqrt args (fun x => x = r)) (ha : args.length ≤ (B.root_Sqrt).ntmps := by exact of_decide_eq_true rfl) : Good P F.root_Sqrt args [] r [] := goodOf Go.Proofs.Tryz.func174 (by kernel_rfl) (by kernel_rfl) md ha h
theorem boxes_least {args : List V} {r : V} (h : ∀ C C2, CC C → CC2 C2 → wpF Ω ⟨tt, C, C2, md, 0, ro⟩ B.boxes_least args (fun x => x = r)) (ha : args.length ≤ (B.boxes_least).ntmps := by exact of_decide_eq_true rfl) : Good P F.boxes_least args [] r [] := goodOf Go.Proofs.Tryz.func175 (by kernel_rfl) (by kernel_rfl) md ha h
theorem boxes_most {args : List V} {r : V} (h : ∀ C C2, CC C → CC2 C2 → wpF Ω ⟨tt, C, C2, md, 0, ro⟩ B.boxes_most args (fun x => x = r)) (ha : args.length ≤ (B.boxes_most).ntmps := by exact of_decide_eq_true rfl) : Good P F.boxes_most args [] r [] := goodOf Go.Proofs.Tryz.func176 (by kernel_rfl) (by kernel_rfl) md ha h
theorem P_bvh_builder_ahead {args : List V} {bs bs' : List Blk} {r : V} (h : ∀ C C2, CC C → CC2 C2 → wpF2 Ω ⟨tt, C, C2, md, bs.length, ro⟩ B.P_bvh_builder_ahead args bs (fun x b => x = r ∧ b = bs')) (hb : bs.length ≤ 1000 := by decide) (ha : args.length ≤ (B.P_bvh_builder_ahead).ntmps := by exact of_decide_eq_true rfl) : Good P F.P_bvh_builder_ahead args bs r bs' := goodOf2 Go.Proofs.Tryz.func177 (by kernel_rfl) (by kernel_rfl) md hb ha h
theorem bvh_axis {args : List V} {r : V} (h : ∀ C C2, CC C → CC2 C2 → wpF Ω ⟨tt, C, C2, md, 0, ro⟩ B.bvh_axis args (fun x => x = r)) (ha : args.length ≤ (B.bvh_axis).ntmps := by exact of_decide_eq_true rfl) : Good P F.bvh_axis args [] r [] := goodOf Go.Proofs.Tryz.func178 (by kernel_rfl) (by kernel_rfl) md ha h
theorem boxes_axes {args : List V} {r : V} (h : ∀ C C2, CC C → CC2 C2 → wpF Ω ⟨tt, C, C2, md, 0, ro⟩ B.boxes_axes args (fun x => x = r)) (ha : args.length ≤ (B.boxes_axes).ntmps := by exact of_decide_eq_true rfl) : Good P F.boxes_axes args [] r [] := goodOf Go.Proofs.Tryz.func179 (by kernel_rfl) (by kernel_rfl) md ha h
theorem tri_Hit {args : List V} {r : V} (h : ∀ C C2, CC C → CC2 C2 → wpF Ω ⟨tt, C, C2, md, 0, ro⟩ B.tri_Hit args (fun x => x = r)) (ha : args.length ≤ (B.tri_Hit).ntmps := by exact of_decide_eq_true rfl) : Good P F.tri_Hit args [] r [] := goodOf Go.Proofs.Tryz.func180 (by kernel_rfl) (by kernel_rfl) md ha h
theorem penumbraref04_Parse {args : List V} {r : V} (h : ∀ C C2, CC C → CC2 C2 → wpF Ω ⟨tt, C, C2, md, 0, ro⟩ B.penumbraref04_Parse args (fun x => x = r)) (ha : args.length ≤ (B.penumbraref04_Parse).ntmps := by exact of_decide_eq_true rfl) : Good P F.penumbraref04_Parse args [] r [] := goodOf Go.Proofs.Tryz.func181 (by kernel_rfl) (by kernel_rfl) md ha h
theorem slices_Equal_L_uint32_uint32 {args : List V} {r : V} (h : ∀ C C2, CC C → CC2 C2 → wpF Ω ⟨tt, C, C2, md, 0, ro⟩ B.slices_Equal_L_uint32_uint32 args (fun x => x = r)) (ha : args.length ≤ (B.slices_Equal_L_uint32_uint32).ntmps := by exact of_decide_eq_true rfl) : Good P F.slices_Equal_L_uint32_uint32 args [] r [] := goodOf Go.Proofs.Tryz.func182 (by kernel_rfl) (by kernel_rfl) md ha h
theorem penumbraref04_Digits {args : List V} {r : V} (h : ∀ C C2, CC C → CC2 C2 → wpF Ω ⟨tt, C, C2, md, 0, ro⟩ B.penumbraref04_Digits args (fun x => x = r)) (ha : args.length ≤ (B.penumbraref04_Digits).ntmps := by exact of_decide_eq_true rfl) : Good P F.penumbraref04_Digits args [] r [] := goodOf Go.Proofs.Tryz.func183 (by kernel_rfl) (by kernel_rfl) md ha h
theorem penumbraref04_Number {args : List V} {r : V} (h : ∀ C C2, CC C → CC2 C2 → wpF Ω ⟨tt, C, C2, md, 0, ro⟩ B.penumbraref04_Number args (fun x => x = r)) (ha : args.length ≤ (B.penumbraref04_Number).ntmps := by exact of_decide_eq_true rfl) : Good P F.penumbraref04_Number args [] r [] := goodOf Go.Proofs.Tryz.func184 (by kernel_rfl) (by kernel_rfl) md ha h
end G
theorem G2.nat_trim (md : FuncId → Bool) {args : List V} {bs bs' : List Blk} {r : V} (h : ∀ C C2, CC C → CC2 C2 → wpF2 Ω ⟨tt, C, C2, md, bs.length, ro⟩ B.nat_trim args bs (fun x b => x = r ∧ b = bs')) (hb : bs.length ≤ 1000 := by decide) (ha : args.length ≤ (B.nat_trim).ntmps := by exact of_decide_eq_true rfl) : Good P F.nat_trim args bs r bs' := goodOf2 Go.Proofs.Tryz.func115 (by kernel_rfl) (by kernel_rfl) md hb ha h
theorem G1.nat_long (md : FuncId → Bool) {args : List V} {r : V} (h : ∀ C C2, CC C → CC2 C2 → wpF Ω ⟨tt, C, C2, md, 0, ro⟩ B.nat_long args (fun x => x = r)) (ha : args.length ≤ (B.nat_long).ntmps := by exact of_decide_eq_true rfl) : Good P F.nat_long args [] r [] := goodOf Go.Proofs.Tryz.func149 (by kernel_rfl) (by kernel_rfl) md ha h
theorem G2.nat_Shl (md : FuncId → Bool) {args : List V} {bs bs' : List Blk} {r : V} (h : ∀ C C2, CC C → CC2 C2 → wpF2 Ω ⟨tt, C, C2, md, bs.length, ro⟩ B.nat_Shl args bs (fun x b => x = r ∧ b = bs')) (hb : bs.length ≤ 1000 := by decide) (ha : args.length ≤ (B.nat_Shl).ntmps := by exact of_decide_eq_true rfl) : Good P F.nat_Shl args bs r bs' := goodOf2 Go.Proofs.Tryz.func169 (by kernel_rfl) (by kernel_rfl) md hb ha h
end Go.K.S
