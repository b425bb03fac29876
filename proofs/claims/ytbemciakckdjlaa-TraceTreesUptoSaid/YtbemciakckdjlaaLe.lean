/-
  Parts of the proof, joined by a program of this work: KSeat, KSpec, KNat, KTrim, KBits, KLow, KMul, KDiv, KShift, KShr, KLess, KBack, KOwn.
-/
import Derived.Test.YtbemciakckdjlaaProg
import Derived.Test.YtbemciakckdjlaaLd
import Derived.KernelRfl
import Derived.Test.YtbemciakckdjlaaLa
section
/-
  PRINTED BY genseat.py (a program of this work): the facts of one seat: its table of types, its functions' and types' numbers.
-/
open Go
namespace Go.K.S
set_option maxRecDepth 100000

noncomputable abbrev P : Program := Go.Proofs.Try.prog
def tt : TypeId → Option TInfo
  | 2 => some ⟨1, 8, some (.int .i64 (0)), .int .i64⟩
  | 3 => some ⟨1, 8, some (.int .i64 (0)), .int .i64⟩
  | 4 => some ⟨1, 1, some (.bool false), .bool⟩
  | 5 => some ⟨1, 1, some (.int .u8 (0)), .int .u8⟩
  | 9 => some ⟨1, 16, some (.string ⟨#[]⟩), .string⟩
  | 12 => some ⟨1, 8, some (.int .u64 (0)), .int .u64⟩
  | 21 => some ⟨1, 4, some (.int .i32 (0)), .int .i32⟩
  | 22 => some ⟨1, 24, some (.slice none 0 0), .slice 30⟩
  | 23 => some ⟨1, 24, some (.slice none 0 0), .slice 32⟩
  | 26 => some ⟨1, 24, some (.slice none 0 0), .slice 120⟩
  | 27 => some ⟨3, 56, some (.agg #[.bool false, .slice none 0 0, .slice none 0 0]), .struct #[{ name := "Neg", type := 4, offset := 0, embedded := false, tag := "", pkgPath := "", byteOffset := 0 }, { name := "Num", type := 26, offset := 1, embedded := false, tag := "", pkgPath := "", byteOffset := 8 }, { name := "Den", type := 26, offset := 2, embedded := false, tag := "", pkgPath := "", byteOffset := 32 }]⟩
  | 28 => some ⟨3, 56, some (.agg #[.bool false, .slice none 0 0, .slice none 0 0]), .struct #[{ name := "Neg", type := 4, offset := 0, embedded := false, tag := "", pkgPath := "", byteOffset := 0 }, { name := "Num", type := 26, offset := 1, embedded := false, tag := "", pkgPath := "", byteOffset := 8 }, { name := "Den", type := 26, offset := 2, embedded := false, tag := "", pkgPath := "", byteOffset := 32 }]⟩
  | 29 => some ⟨9, 168, some (.agg #[.bool false, .slice none 0 0, .slice none 0 0, .bool false, .slice none 0 0, .slice none 0 0, .bool false, .slice none 0 0, .slice none 0 0]), .struct #[{ name := "X", type := 28, offset := 0, embedded := false, tag := "", pkgPath := "", byteOffset := 0 }, { name := "Y", type := 28, offset := 3, embedded := false, tag := "", pkgPath := "", byteOffset := 56 }, { name := "Z", type := 28, offset := 6, embedded := false, tag := "", pkgPath := "", byteOffset := 112 }]⟩
  | 30 => some ⟨9, 168, some (.agg #[.bool false, .slice none 0 0, .slice none 0 0, .bool false, .slice none 0 0, .slice none 0 0, .bool false, .slice none 0 0, .slice none 0 0]), .struct #[{ name := "X", type := 28, offset := 0, embedded := false, tag := "", pkgPath := "", byteOffset := 0 }, { name := "Y", type := 28, offset := 3, embedded := false, tag := "", pkgPath := "", byteOffset := 56 }, { name := "Z", type := 28, offset := 6, embedded := false, tag := "", pkgPath := "", byteOffset := 112 }]⟩
  | 31 => some ⟨18, 336, some (.agg #[.bool false, .slice none 0 0, .slice none 0 0, .bool false, .slice none 0 0, .slice none 0 0, .bool false, .slice none 0 0, .slice none 0 0, .bool false, .slice none 0 0, .slice none 0 0, .bool false, .slice none 0 0, .slice none 0 0, .bool false, .slice none 0 0, .slice none 0 0]), .struct #[{ name := "Lo", type := 30, offset := 0, embedded := false, tag := "", pkgPath := "", byteOffset := 0 }, { name := "Hi", type := 30, offset := 9, embedded := false, tag := "", pkgPath := "", byteOffset := 168 }]⟩
  | 32 => some ⟨18, 336, some (.agg #[.bool false, .slice none 0 0, .slice none 0 0, .bool false, .slice none 0 0, .slice none 0 0, .bool false, .slice none 0 0, .slice none 0 0, .bool false, .slice none 0 0, .slice none 0 0, .bool false, .slice none 0 0, .slice none 0 0, .bool false, .slice none 0 0, .slice none 0 0]), .struct #[{ name := "Lo", type := 30, offset := 0, embedded := false, tag := "", pkgPath := "", byteOffset := 0 }, { name := "Hi", type := 30, offset := 9, embedded := false, tag := "", pkgPath := "", byteOffset := 168 }]⟩
  | 38 => some ⟨7, 120, some (.agg #[.bool false, .slice none 0 0, .slice none 0 0, .bool false, .slice none 0 0, .slice none 0 0, .bool false]), .struct #[{ name := "From", type := 28, offset := 0, embedded := false, tag := "", pkgPath := "", byteOffset := 0 }, { name := "To", type := 28, offset := 3, embedded := false, tag := "", pkgPath := "", byteOffset := 56 }, { name := "Open", type := 4, offset := 6, embedded := false, tag := "", pkgPath := "", byteOffset := 112 }]⟩
  | 39 => some ⟨7, 120, some (.agg #[.bool false, .slice none 0 0, .slice none 0 0, .bool false, .slice none 0 0, .slice none 0 0, .bool false]), .struct #[{ name := "From", type := 28, offset := 0, embedded := false, tag := "", pkgPath := "", byteOffset := 0 }, { name := "To", type := 28, offset := 3, embedded := false, tag := "", pkgPath := "", byteOffset := 56 }, { name := "Open", type := 4, offset := 6, embedded := false, tag := "", pkgPath := "", byteOffset := 112 }]⟩
  | 47 => some ⟨18, 336, some (.agg #[.bool false, .slice none 0 0, .slice none 0 0, .bool false, .slice none 0 0, .slice none 0 0, .bool false, .slice none 0 0, .slice none 0 0, .bool false, .slice none 0 0, .slice none 0 0, .bool false, .slice none 0 0, .slice none 0 0, .bool false, .slice none 0 0, .slice none 0 0]), .array 2 30⟩
  | 52 => some ⟨27, 504, some (.agg #[.bool false, .slice none 0 0, .slice none 0 0, .bool false, .slice none 0 0, .slice none 0 0, .bool false, .slice none 0 0, .slice none 0 0, .bool false, .slice none 0 0, .slice none 0 0, .bool false, .slice none 0 0, .slice none 0 0, .bool false, .slice none 0 0, .slice none 0 0, .bool false, .slice none 0 0, .slice none 0 0, .bool false, .slice none 0 0, .slice none 0 0, .bool false, .slice none 0 0, .slice none 0 0]), .struct #[{ name := "A", type := 30, offset := 0, embedded := false, tag := "", pkgPath := "", byteOffset := 0 }, { name := "B", type := 30, offset := 9, embedded := false, tag := "", pkgPath := "", byteOffset := 168 }, { name := "C", type := 30, offset := 18, embedded := false, tag := "", pkgPath := "", byteOffset := 336 }]⟩
  | 53 => some ⟨27, 504, some (.agg #[.bool false, .slice none 0 0, .slice none 0 0, .bool false, .slice none 0 0, .slice none 0 0, .bool false, .slice none 0 0, .slice none 0 0, .bool false, .slice none 0 0, .slice none 0 0, .bool false, .slice none 0 0, .slice none 0 0, .bool false, .slice none 0 0, .slice none 0 0, .bool false, .slice none 0 0, .slice none 0 0, .bool false, .slice none 0 0, .slice none 0 0, .bool false, .slice none 0 0, .slice none 0 0]), .struct #[{ name := "A", type := 30, offset := 0, embedded := false, tag := "", pkgPath := "", byteOffset := 0 }, { name := "B", type := 30, offset := 9, embedded := false, tag := "", pkgPath := "", byteOffset := 168 }, { name := "C", type := 30, offset := 18, embedded := false, tag := "", pkgPath := "", byteOffset := 336 }]⟩
  | 54 => some ⟨9, 168, some (.agg #[.bool false, .slice none 0 0, .slice none 0 0, .bool false, .slice none 0 0, .slice none 0 0, .bool false, .slice none 0 0, .slice none 0 0]), .struct #[{ name := "S", type := 28, offset := 0, embedded := false, tag := "", pkgPath := "", byteOffset := 0 }, { name := "U", type := 28, offset := 3, embedded := false, tag := "", pkgPath := "", byteOffset := 56 }, { name := "V", type := 28, offset := 6, embedded := false, tag := "", pkgPath := "", byteOffset := 112 }]⟩
  | 55 => some ⟨9, 168, some (.agg #[.bool false, .slice none 0 0, .slice none 0 0, .bool false, .slice none 0 0, .slice none 0 0, .bool false, .slice none 0 0, .slice none 0 0]), .struct #[{ name := "S", type := 28, offset := 0, embedded := false, tag := "", pkgPath := "", byteOffset := 0 }, { name := "U", type := 28, offset := 3, embedded := false, tag := "", pkgPath := "", byteOffset := 56 }, { name := "V", type := 28, offset := 6, embedded := false, tag := "", pkgPath := "", byteOffset := 112 }]⟩
  | 60 => some ⟨1, 24, some (.slice none 0 0), .slice 53⟩
  | 63 => some ⟨1, 24, some (.slice none 0 0), .slice 108⟩
  | 64 => some ⟨1, 24, some (.slice none 0 0), .slice 3⟩
  | 65 => some ⟨2, 48, some (.agg #[.slice none 0 0, .slice none 0 0]), .struct #[{ name := "Nodes", type := 63, offset := 0, embedded := false, tag := "", pkgPath := "", byteOffset := 0 }, { name := "Order", type := 64, offset := 1, embedded := false, tag := "", pkgPath := "", byteOffset := 24 }]⟩
  | 66 => some ⟨2, 48, some (.agg #[.slice none 0 0, .slice none 0 0]), .struct #[{ name := "Nodes", type := 63, offset := 0, embedded := false, tag := "", pkgPath := "", byteOffset := 0 }, { name := "Order", type := 64, offset := 1, embedded := false, tag := "", pkgPath := "", byteOffset := 24 }]⟩
  | 74 => some ⟨1, 8, some (.int .i64 (0)), .int .i64⟩
  | 86 => some ⟨9, 168, some (.agg #[.bool false, .slice none 0 0, .slice none 0 0, .bool false, .slice none 0 0, .slice none 0 0, .bool false, .slice none 0 0, .slice none 0 0]), .array 3 28⟩
  | 90 => some ⟨1, 24, some (.slice none 0 0), .slice 28⟩
  | 102 => some ⟨1, 8, some (.pointer none), .pointer 105⟩
  | 103 => some ⟨1, 24, some (.slice none 0 0), .slice 4⟩
  | 104 => some ⟨32, 608, some (.agg #[.slice none 0 0, .slice none 0 0, .slice none 0 0, .bool false, .slice none 0 0, .slice none 0 0, .bool false, .slice none 0 0, .slice none 0 0, .bool false, .slice none 0 0, .slice none 0 0, .bool false, .slice none 0 0, .slice none 0 0, .bool false, .slice none 0 0, .slice none 0 0, .bool false, .slice none 0 0, .slice none 0 0, .int .i64 (0), .slice none 0 0, .bool false, .slice none 0 0, .slice none 0 0, .bool false, .slice none 0 0, .slice none 0 0, .bool false, .slice none 0 0, .slice none 0 0]), .struct #[{ name := "Tree", type := 66, offset := 0, embedded := true, tag := "", pkgPath := "", byteOffset := 0 }, { name := "tris", type := 60, offset := 2, embedded := false, tag := "", pkgPath := "penumbra/trace", byteOffset := 48 }, { name := "o", type := 30, offset := 3, embedded := false, tag := "", pkgPath := "penumbra/trace", byteOffset := 72 }, { name := "d", type := 30, offset := 12, embedded := false, tag := "", pkgPath := "penumbra/trace", byteOffset := 240 }, { name := "best", type := 3, offset := 21, embedded := false, tag := "", pkgPath := "penumbra/trace", byteOffset := 408 }, { name := "seen", type := 103, offset := 22, embedded := false, tag := "", pkgPath := "penumbra/trace", byteOffset := 416 }, { name := "Meet", type := 55, offset := 23, embedded := true, tag := "", pkgPath := "", byteOffset := 440 }]⟩
  | 105 => some ⟨32, 608, some (.agg #[.slice none 0 0, .slice none 0 0, .slice none 0 0, .bool false, .slice none 0 0, .slice none 0 0, .bool false, .slice none 0 0, .slice none 0 0, .bool false, .slice none 0 0, .slice none 0 0, .bool false, .slice none 0 0, .slice none 0 0, .bool false, .slice none 0 0, .slice none 0 0, .bool false, .slice none 0 0, .slice none 0 0, .int .i64 (0), .slice none 0 0, .bool false, .slice none 0 0, .slice none 0 0, .bool false, .slice none 0 0, .slice none 0 0, .bool false, .slice none 0 0, .slice none 0 0]), .struct #[{ name := "Tree", type := 66, offset := 0, embedded := true, tag := "", pkgPath := "", byteOffset := 0 }, { name := "tris", type := 60, offset := 2, embedded := false, tag := "", pkgPath := "penumbra/trace", byteOffset := 48 }, { name := "o", type := 30, offset := 3, embedded := false, tag := "", pkgPath := "penumbra/trace", byteOffset := 72 }, { name := "d", type := 30, offset := 12, embedded := false, tag := "", pkgPath := "penumbra/trace", byteOffset := 240 }, { name := "best", type := 3, offset := 21, embedded := false, tag := "", pkgPath := "penumbra/trace", byteOffset := 408 }, { name := "seen", type := 103, offset := 22, embedded := false, tag := "", pkgPath := "penumbra/trace", byteOffset := 416 }, { name := "Meet", type := 55, offset := 23, embedded := true, tag := "", pkgPath := "", byteOffset := 440 }]⟩
  | 107 => some ⟨22, 368, some (.agg #[.bool false, .slice none 0 0, .slice none 0 0, .bool false, .slice none 0 0, .slice none 0 0, .bool false, .slice none 0 0, .slice none 0 0, .bool false, .slice none 0 0, .slice none 0 0, .bool false, .slice none 0 0, .slice none 0 0, .bool false, .slice none 0 0, .slice none 0 0, .int .i64 (0), .int .i64 (0), .int .i64 (0), .int .i64 (0)]), .struct #[{ name := "Box", type := 32, offset := 0, embedded := true, tag := "", pkgPath := "", byteOffset := 0 }, { name := "Left", type := 3, offset := 18, embedded := false, tag := "", pkgPath := "", byteOffset := 336 }, { name := "Right", type := 3, offset := 19, embedded := false, tag := "", pkgPath := "", byteOffset := 344 }, { name := "From", type := 3, offset := 20, embedded := false, tag := "", pkgPath := "", byteOffset := 352 }, { name := "Count", type := 3, offset := 21, embedded := false, tag := "", pkgPath := "", byteOffset := 360 }]⟩
  | 108 => some ⟨22, 368, some (.agg #[.bool false, .slice none 0 0, .slice none 0 0, .bool false, .slice none 0 0, .slice none 0 0, .bool false, .slice none 0 0, .slice none 0 0, .bool false, .slice none 0 0, .slice none 0 0, .bool false, .slice none 0 0, .slice none 0 0, .bool false, .slice none 0 0, .slice none 0 0, .int .i64 (0), .int .i64 (0), .int .i64 (0), .int .i64 (0)]), .struct #[{ name := "Box", type := 32, offset := 0, embedded := true, tag := "", pkgPath := "", byteOffset := 0 }, { name := "Left", type := 3, offset := 18, embedded := false, tag := "", pkgPath := "", byteOffset := 336 }, { name := "Right", type := 3, offset := 19, embedded := false, tag := "", pkgPath := "", byteOffset := 344 }, { name := "From", type := 3, offset := 20, embedded := false, tag := "", pkgPath := "", byteOffset := 352 }, { name := "Count", type := 3, offset := 21, embedded := false, tag := "", pkgPath := "", byteOffset := 360 }]⟩
  | 115 => some ⟨1, 8, some (.pointer none), .pointer 117⟩
  | 116 => some ⟨4, 96, some (.agg #[.slice none 0 0, .slice none 0 0, .slice none 0 0, .slice none 0 0]), .struct #[{ name := "Tree", type := 66, offset := 0, embedded := true, tag := "", pkgPath := "", byteOffset := 0 }, { name := "tris", type := 60, offset := 2, embedded := false, tag := "", pkgPath := "penumbra/bvh", byteOffset := 48 }, { name := "at", type := 22, offset := 3, embedded := false, tag := "", pkgPath := "penumbra/bvh", byteOffset := 72 }]⟩
  | 117 => some ⟨4, 96, some (.agg #[.slice none 0 0, .slice none 0 0, .slice none 0 0, .slice none 0 0]), .struct #[{ name := "Tree", type := 66, offset := 0, embedded := true, tag := "", pkgPath := "", byteOffset := 0 }, { name := "tris", type := 60, offset := 2, embedded := false, tag := "", pkgPath := "penumbra/bvh", byteOffset := 48 }, { name := "at", type := 22, offset := 3, embedded := false, tag := "", pkgPath := "penumbra/bvh", byteOffset := 72 }]⟩
  | 120 => some ⟨1, 4, some (.int .u32 (0)), .int .u32⟩
  | 123 => some ⟨1, 8, some (.int .u64 (0)), .int .u64⟩
  | 124 => some ⟨1, 8, some (.int .u64 (0)), .int .u64⟩
  | 128 => some ⟨2, 16, some (.agg #[.int .i64 (0), .int .i64 (0)]), .array 2 3⟩
  | 155 => some ⟨0, 0, some (.agg #[]), .array 0 16⟩
  | 162 => some ⟨1, 8, some (.pointer none), .pointer 5⟩
  | _ => none

theorem tokOf {T : TypeId} {a b : Nat} {c : Option Value} {u : TypeDesc} (h : (P.info? T).map (fun i => (i.size, i.bytes, i.zero)) = some (a, b, c)) (hu : P.underlying T = some u)
    (hz : ∀ z, c = some z → z.cells.size = a ∧ z.cells.toList.all Value.oneCell' = true) : TOk P T ⟨a, b, c, u⟩ := by
  cases hi : P.info? T with
  | none => rw [hi] at h; cases h
  | some info => rw [hi] at h; cases h; exact ⟨⟨info, hi, rfl, rfl, rfl⟩, hu, hz⟩

theorem tok2 : TOk P 2 ⟨1, 8, some (.int .i64 (0)), .int .i64⟩ := tokOf (by kernel_rfl) (by kernel_rfl) (fun z h => by cases h; exact ⟨rfl, rfl⟩)
theorem tok3 : TOk P 3 ⟨1, 8, some (.int .i64 (0)), .int .i64⟩ := tokOf (by kernel_rfl) (by kernel_rfl) (fun z h => by cases h; exact ⟨rfl, rfl⟩)
theorem tok4 : TOk P 4 ⟨1, 1, some (.bool false), .bool⟩ := tokOf (by kernel_rfl) (by kernel_rfl) (fun z h => by cases h; exact ⟨rfl, rfl⟩)
theorem tok5 : TOk P 5 ⟨1, 1, some (.int .u8 (0)), .int .u8⟩ := tokOf (by kernel_rfl) (by kernel_rfl) (fun z h => by cases h; exact ⟨rfl, rfl⟩)
theorem tok9 : TOk P 9 ⟨1, 16, some (.string ⟨#[]⟩), .string⟩ := tokOf (by kernel_rfl) (by kernel_rfl) (fun z h => by cases h; exact ⟨rfl, rfl⟩)
theorem tok12 : TOk P 12 ⟨1, 8, some (.int .u64 (0)), .int .u64⟩ := tokOf (by kernel_rfl) (by kernel_rfl) (fun z h => by cases h; exact ⟨rfl, rfl⟩)
theorem tok21 : TOk P 21 ⟨1, 4, some (.int .i32 (0)), .int .i32⟩ := tokOf (by kernel_rfl) (by kernel_rfl) (fun z h => by cases h; exact ⟨rfl, rfl⟩)
theorem tok22 : TOk P 22 ⟨1, 24, some (.slice none 0 0), .slice 30⟩ := tokOf (by kernel_rfl) (by kernel_rfl) (fun z h => by cases h; exact ⟨rfl, rfl⟩)
theorem tok23 : TOk P 23 ⟨1, 24, some (.slice none 0 0), .slice 32⟩ := tokOf (by kernel_rfl) (by kernel_rfl) (fun z h => by cases h; exact ⟨rfl, rfl⟩)
theorem tok26 : TOk P 26 ⟨1, 24, some (.slice none 0 0), .slice 120⟩ := tokOf (by kernel_rfl) (by kernel_rfl) (fun z h => by cases h; exact ⟨rfl, rfl⟩)
theorem tok27 : TOk P 27 ⟨3, 56, some (.agg #[.bool false, .slice none 0 0, .slice none 0 0]), .struct #[{ name := "Neg", type := 4, offset := 0, embedded := false, tag := "", pkgPath := "", byteOffset := 0 }, { name := "Num", type := 26, offset := 1, embedded := false, tag := "", pkgPath := "", byteOffset := 8 }, { name := "Den", type := 26, offset := 2, embedded := false, tag := "", pkgPath := "", byteOffset := 32 }]⟩ := tokOf (by kernel_rfl) (by kernel_rfl) (fun z h => by cases h; exact ⟨rfl, rfl⟩)
theorem tok28 : TOk P 28 ⟨3, 56, some (.agg #[.bool false, .slice none 0 0, .slice none 0 0]), .struct #[{ name := "Neg", type := 4, offset := 0, embedded := false, tag := "", pkgPath := "", byteOffset := 0 }, { name := "Num", type := 26, offset := 1, embedded := false, tag := "", pkgPath := "", byteOffset := 8 }, { name := "Den", type := 26, offset := 2, embedded := false, tag := "", pkgPath := "", byteOffset := 32 }]⟩ := tokOf (by kernel_rfl) (by kernel_rfl) (fun z h => by cases h; exact ⟨rfl, rfl⟩)
theorem tok29 : TOk P 29 ⟨9, 168, some (.agg #[.bool false, .slice none 0 0, .slice none 0 0, .bool false, .slice none 0 0, .slice none 0 0, .bool false, .slice none 0 0, .slice none 0 0]), .struct #[{ name := "X", type := 28, offset := 0, embedded := false, tag := "", pkgPath := "", byteOffset := 0 }, { name := "Y", type := 28, offset := 3, embedded := false, tag := "", pkgPath := "", byteOffset := 56 }, { name := "Z", type := 28, offset := 6, embedded := false, tag := "", pkgPath := "", byteOffset := 112 }]⟩ := tokOf (by kernel_rfl) (by kernel_rfl) (fun z h => by cases h; exact ⟨rfl, rfl⟩)
theorem tok30 : TOk P 30 ⟨9, 168, some (.agg #[.bool false, .slice none 0 0, .slice none 0 0, .bool false, .slice none 0 0, .slice none 0 0, .bool false, .slice none 0 0, .slice none 0 0]), .struct #[{ name := "X", type := 28, offset := 0, embedded := false, tag := "", pkgPath := "", byteOffset := 0 }, { name := "Y", type := 28, offset := 3, embedded := false, tag := "", pkgPath := "", byteOffset := 56 }, { name := "Z", type := 28, offset := 6, embedded := false, tag := "", pkgPath := "", byteOffset := 112 }]⟩ := tokOf (by kernel_rfl) (by kernel_rfl) (fun z h => by cases h; exact ⟨rfl, rfl⟩)
theorem tok31 : TOk P 31 ⟨18, 336, some (.agg #[.bool false, .slice none 0 0, .slice none 0 0, .bool false, .slice none 0 0, .slice none 0 0, .bool false, .slice none 0 0, .slice none 0 0, .bool false, .slice none 0 0, .slice none 0 0, .bool false, .slice none 0 0, .slice none 0 0, .bool false, .slice none 0 0, .slice none 0 0]), .struct #[{ name := "Lo", type := 30, offset := 0, embedded := false, tag := "", pkgPath := "", byteOffset := 0 }, { name := "Hi", type := 30, offset := 9, embedded := false, tag := "", pkgPath := "", byteOffset := 168 }]⟩ := tokOf (by kernel_rfl) (by kernel_rfl) (fun z h => by cases h; exact ⟨rfl, rfl⟩)
theorem tok32 : TOk P 32 ⟨18, 336, some (.agg #[.bool false, .slice none 0 0, .slice none 0 0, .bool false, .slice none 0 0, .slice none 0 0, .bool false, .slice none 0 0, .slice none 0 0, .bool false, .slice none 0 0, .slice none 0 0, .bool false, .slice none 0 0, .slice none 0 0, .bool false, .slice none 0 0, .slice none 0 0]), .struct #[{ name := "Lo", type := 30, offset := 0, embedded := false, tag := "", pkgPath := "", byteOffset := 0 }, { name := "Hi", type := 30, offset := 9, embedded := false, tag := "", pkgPath := "", byteOffset := 168 }]⟩ := tokOf (by kernel_rfl) (by kernel_rfl) (fun z h => by cases h; exact ⟨rfl, rfl⟩)
theorem tok38 : TOk P 38 ⟨7, 120, some (.agg #[.bool false, .slice none 0 0, .slice none 0 0, .bool false, .slice none 0 0, .slice none 0 0, .bool false]), .struct #[{ name := "From", type := 28, offset := 0, embedded := false, tag := "", pkgPath := "", byteOffset := 0 }, { name := "To", type := 28, offset := 3, embedded := false, tag := "", pkgPath := "", byteOffset := 56 }, { name := "Open", type := 4, offset := 6, embedded := false, tag := "", pkgPath := "", byteOffset := 112 }]⟩ := tokOf (by kernel_rfl) (by kernel_rfl) (fun z h => by cases h; exact ⟨rfl, rfl⟩)
theorem tok39 : TOk P 39 ⟨7, 120, some (.agg #[.bool false, .slice none 0 0, .slice none 0 0, .bool false, .slice none 0 0, .slice none 0 0, .bool false]), .struct #[{ name := "From", type := 28, offset := 0, embedded := false, tag := "", pkgPath := "", byteOffset := 0 }, { name := "To", type := 28, offset := 3, embedded := false, tag := "", pkgPath := "", byteOffset := 56 }, { name := "Open", type := 4, offset := 6, embedded := false, tag := "", pkgPath := "", byteOffset := 112 }]⟩ := tokOf (by kernel_rfl) (by kernel_rfl) (fun z h => by cases h; exact ⟨rfl, rfl⟩)
theorem tok47 : TOk P 47 ⟨18, 336, some (.agg #[.bool false, .slice none 0 0, .slice none 0 0, .bool false, .slice none 0 0, .slice none 0 0, .bool false, .slice none 0 0, .slice none 0 0, .bool false, .slice none 0 0, .slice none 0 0, .bool false, .slice none 0 0, .slice none 0 0, .bool false, .slice none 0 0, .slice none 0 0]), .array 2 30⟩ := tokOf (by kernel_rfl) (by kernel_rfl) (fun z h => by cases h; exact ⟨rfl, rfl⟩)
theorem tok52 : TOk P 52 ⟨27, 504, some (.agg #[.bool false, .slice none 0 0, .slice none 0 0, .bool false, .slice none 0 0, .slice none 0 0, .bool false, .slice none 0 0, .slice none 0 0, .bool false, .slice none 0 0, .slice none 0 0, .bool false, .slice none 0 0, .slice none 0 0, .bool false, .slice none 0 0, .slice none 0 0, .bool false, .slice none 0 0, .slice none 0 0, .bool false, .slice none 0 0, .slice none 0 0, .bool false, .slice none 0 0, .slice none 0 0]), .struct #[{ name := "A", type := 30, offset := 0, embedded := false, tag := "", pkgPath := "", byteOffset := 0 }, { name := "B", type := 30, offset := 9, embedded := false, tag := "", pkgPath := "", byteOffset := 168 }, { name := "C", type := 30, offset := 18, embedded := false, tag := "", pkgPath := "", byteOffset := 336 }]⟩ := tokOf (by kernel_rfl) (by kernel_rfl) (fun z h => by cases h; exact ⟨rfl, rfl⟩)
theorem tok53 : TOk P 53 ⟨27, 504, some (.agg #[.bool false, .slice none 0 0, .slice none 0 0, .bool false, .slice none 0 0, .slice none 0 0, .bool false, .slice none 0 0, .slice none 0 0, .bool false, .slice none 0 0, .slice none 0 0, .bool false, .slice none 0 0, .slice none 0 0, .bool false, .slice none 0 0, .slice none 0 0, .bool false, .slice none 0 0, .slice none 0 0, .bool false, .slice none 0 0, .slice none 0 0, .bool false, .slice none 0 0, .slice none 0 0]), .struct #[{ name := "A", type := 30, offset := 0, embedded := false, tag := "", pkgPath := "", byteOffset := 0 }, { name := "B", type := 30, offset := 9, embedded := false, tag := "", pkgPath := "", byteOffset := 168 }, { name := "C", type := 30, offset := 18, embedded := false, tag := "", pkgPath := "", byteOffset := 336 }]⟩ := tokOf (by kernel_rfl) (by kernel_rfl) (fun z h => by cases h; exact ⟨rfl, rfl⟩)
theorem tok54 : TOk P 54 ⟨9, 168, some (.agg #[.bool false, .slice none 0 0, .slice none 0 0, .bool false, .slice none 0 0, .slice none 0 0, .bool false, .slice none 0 0, .slice none 0 0]), .struct #[{ name := "S", type := 28, offset := 0, embedded := false, tag := "", pkgPath := "", byteOffset := 0 }, { name := "U", type := 28, offset := 3, embedded := false, tag := "", pkgPath := "", byteOffset := 56 }, { name := "V", type := 28, offset := 6, embedded := false, tag := "", pkgPath := "", byteOffset := 112 }]⟩ := tokOf (by kernel_rfl) (by kernel_rfl) (fun z h => by cases h; exact ⟨rfl, rfl⟩)
theorem tok55 : TOk P 55 ⟨9, 168, some (.agg #[.bool false, .slice none 0 0, .slice none 0 0, .bool false, .slice none 0 0, .slice none 0 0, .bool false, .slice none 0 0, .slice none 0 0]), .struct #[{ name := "S", type := 28, offset := 0, embedded := false, tag := "", pkgPath := "", byteOffset := 0 }, { name := "U", type := 28, offset := 3, embedded := false, tag := "", pkgPath := "", byteOffset := 56 }, { name := "V", type := 28, offset := 6, embedded := false, tag := "", pkgPath := "", byteOffset := 112 }]⟩ := tokOf (by kernel_rfl) (by kernel_rfl) (fun z h => by cases h; exact ⟨rfl, rfl⟩)
theorem tok60 : TOk P 60 ⟨1, 24, some (.slice none 0 0), .slice 53⟩ := tokOf (by kernel_rfl) (by kernel_rfl) (fun z h => by cases h; exact ⟨rfl, rfl⟩)
theorem tok63 : TOk P 63 ⟨1, 24, some (.slice none 0 0), .slice 108⟩ := tokOf (by kernel_rfl) (by kernel_rfl) (fun z h => by cases h; exact ⟨rfl, rfl⟩)
theorem tok64 : TOk P 64 ⟨1, 24, some (.slice none 0 0), .slice 3⟩ := tokOf (by kernel_rfl) (by kernel_rfl) (fun z h => by cases h; exact ⟨rfl, rfl⟩)
theorem tok65 : TOk P 65 ⟨2, 48, some (.agg #[.slice none 0 0, .slice none 0 0]), .struct #[{ name := "Nodes", type := 63, offset := 0, embedded := false, tag := "", pkgPath := "", byteOffset := 0 }, { name := "Order", type := 64, offset := 1, embedded := false, tag := "", pkgPath := "", byteOffset := 24 }]⟩ := tokOf (by kernel_rfl) (by kernel_rfl) (fun z h => by cases h; exact ⟨rfl, rfl⟩)
theorem tok66 : TOk P 66 ⟨2, 48, some (.agg #[.slice none 0 0, .slice none 0 0]), .struct #[{ name := "Nodes", type := 63, offset := 0, embedded := false, tag := "", pkgPath := "", byteOffset := 0 }, { name := "Order", type := 64, offset := 1, embedded := false, tag := "", pkgPath := "", byteOffset := 24 }]⟩ := tokOf (by kernel_rfl) (by kernel_rfl) (fun z h => by cases h; exact ⟨rfl, rfl⟩)
theorem tok74 : TOk P 74 ⟨1, 8, some (.int .i64 (0)), .int .i64⟩ := tokOf (by kernel_rfl) (by kernel_rfl) (fun z h => by cases h; exact ⟨rfl, rfl⟩)
theorem tok86 : TOk P 86 ⟨9, 168, some (.agg #[.bool false, .slice none 0 0, .slice none 0 0, .bool false, .slice none 0 0, .slice none 0 0, .bool false, .slice none 0 0, .slice none 0 0]), .array 3 28⟩ := tokOf (by kernel_rfl) (by kernel_rfl) (fun z h => by cases h; exact ⟨rfl, rfl⟩)
theorem tok90 : TOk P 90 ⟨1, 24, some (.slice none 0 0), .slice 28⟩ := tokOf (by kernel_rfl) (by kernel_rfl) (fun z h => by cases h; exact ⟨rfl, rfl⟩)
theorem tok102 : TOk P 102 ⟨1, 8, some (.pointer none), .pointer 105⟩ := tokOf (by kernel_rfl) (by kernel_rfl) (fun z h => by cases h; exact ⟨rfl, rfl⟩)
theorem tok103 : TOk P 103 ⟨1, 24, some (.slice none 0 0), .slice 4⟩ := tokOf (by kernel_rfl) (by kernel_rfl) (fun z h => by cases h; exact ⟨rfl, rfl⟩)
theorem tok104 : TOk P 104 ⟨32, 608, some (.agg #[.slice none 0 0, .slice none 0 0, .slice none 0 0, .bool false, .slice none 0 0, .slice none 0 0, .bool false, .slice none 0 0, .slice none 0 0, .bool false, .slice none 0 0, .slice none 0 0, .bool false, .slice none 0 0, .slice none 0 0, .bool false, .slice none 0 0, .slice none 0 0, .bool false, .slice none 0 0, .slice none 0 0, .int .i64 (0), .slice none 0 0, .bool false, .slice none 0 0, .slice none 0 0, .bool false, .slice none 0 0, .slice none 0 0, .bool false, .slice none 0 0, .slice none 0 0]), .struct #[{ name := "Tree", type := 66, offset := 0, embedded := true, tag := "", pkgPath := "", byteOffset := 0 }, { name := "tris", type := 60, offset := 2, embedded := false, tag := "", pkgPath := "penumbra/trace", byteOffset := 48 }, { name := "o", type := 30, offset := 3, embedded := false, tag := "", pkgPath := "penumbra/trace", byteOffset := 72 }, { name := "d", type := 30, offset := 12, embedded := false, tag := "", pkgPath := "penumbra/trace", byteOffset := 240 }, { name := "best", type := 3, offset := 21, embedded := false, tag := "", pkgPath := "penumbra/trace", byteOffset := 408 }, { name := "seen", type := 103, offset := 22, embedded := false, tag := "", pkgPath := "penumbra/trace", byteOffset := 416 }, { name := "Meet", type := 55, offset := 23, embedded := true, tag := "", pkgPath := "", byteOffset := 440 }]⟩ := tokOf (by kernel_rfl) (by kernel_rfl) (fun z h => by cases h; exact ⟨rfl, rfl⟩)
theorem tok105 : TOk P 105 ⟨32, 608, some (.agg #[.slice none 0 0, .slice none 0 0, .slice none 0 0, .bool false, .slice none 0 0, .slice none 0 0, .bool false, .slice none 0 0, .slice none 0 0, .bool false, .slice none 0 0, .slice none 0 0, .bool false, .slice none 0 0, .slice none 0 0, .bool false, .slice none 0 0, .slice none 0 0, .bool false, .slice none 0 0, .slice none 0 0, .int .i64 (0), .slice none 0 0, .bool false, .slice none 0 0, .slice none 0 0, .bool false, .slice none 0 0, .slice none 0 0, .bool false, .slice none 0 0, .slice none 0 0]), .struct #[{ name := "Tree", type := 66, offset := 0, embedded := true, tag := "", pkgPath := "", byteOffset := 0 }, { name := "tris", type := 60, offset := 2, embedded := false, tag := "", pkgPath := "penumbra/trace", byteOffset := 48 }, { name := "o", type := 30, offset := 3, embedded := false, tag := "", pkgPath := "penumbra/trace", byteOffset := 72 }, { name := "d", type := 30, offset := 12, embedded := false, tag := "", pkgPath := "penumbra/trace", byteOffset := 240 }, { name := "best", type := 3, offset := 21, embedded := false, tag := "", pkgPath := "penumbra/trace", byteOffset := 408 }, { name := "seen", type := 103, offset := 22, embedded := false, tag := "", pkgPath := "penumbra/trace", byteOffset := 416 }, { name := "Meet", type := 55, offset := 23, embedded := true, tag := "", pkgPath := "", byteOffset := 440 }]⟩ := tokOf (by kernel_rfl) (by kernel_rfl) (fun z h => by cases h; exact ⟨rfl, rfl⟩)
theorem tok107 : TOk P 107 ⟨22, 368, some (.agg #[.bool false, .slice none 0 0, .slice none 0 0, .bool false, .slice none 0 0, .slice none 0 0, .bool false, .slice none 0 0, .slice none 0 0, .bool false, .slice none 0 0, .slice none 0 0, .bool false, .slice none 0 0, .slice none 0 0, .bool false, .slice none 0 0, .slice none 0 0, .int .i64 (0), .int .i64 (0), .int .i64 (0), .int .i64 (0)]), .struct #[{ name := "Box", type := 32, offset := 0, embedded := true, tag := "", pkgPath := "", byteOffset := 0 }, { name := "Left", type := 3, offset := 18, embedded := false, tag := "", pkgPath := "", byteOffset := 336 }, { name := "Right", type := 3, offset := 19, embedded := false, tag := "", pkgPath := "", byteOffset := 344 }, { name := "From", type := 3, offset := 20, embedded := false, tag := "", pkgPath := "", byteOffset := 352 }, { name := "Count", type := 3, offset := 21, embedded := false, tag := "", pkgPath := "", byteOffset := 360 }]⟩ := tokOf (by kernel_rfl) (by kernel_rfl) (fun z h => by cases h; exact ⟨rfl, rfl⟩)
theorem tok108 : TOk P 108 ⟨22, 368, some (.agg #[.bool false, .slice none 0 0, .slice none 0 0, .bool false, .slice none 0 0, .slice none 0 0, .bool false, .slice none 0 0, .slice none 0 0, .bool false, .slice none 0 0, .slice none 0 0, .bool false, .slice none 0 0, .slice none 0 0, .bool false, .slice none 0 0, .slice none 0 0, .int .i64 (0), .int .i64 (0), .int .i64 (0), .int .i64 (0)]), .struct #[{ name := "Box", type := 32, offset := 0, embedded := true, tag := "", pkgPath := "", byteOffset := 0 }, { name := "Left", type := 3, offset := 18, embedded := false, tag := "", pkgPath := "", byteOffset := 336 }, { name := "Right", type := 3, offset := 19, embedded := false, tag := "", pkgPath := "", byteOffset := 344 }, { name := "From", type := 3, offset := 20, embedded := false, tag := "", pkgPath := "", byteOffset := 352 }, { name := "Count", type := 3, offset := 21, embedded := false, tag := "", pkgPath := "", byteOffset := 360 }]⟩ := tokOf (by kernel_rfl) (by kernel_rfl) (fun z h => by cases h; exact ⟨rfl, rfl⟩)
theorem tok115 : TOk P 115 ⟨1, 8, some (.pointer none), .pointer 117⟩ := tokOf (by kernel_rfl) (by kernel_rfl) (fun z h => by cases h; exact ⟨rfl, rfl⟩)
theorem tok116 : TOk P 116 ⟨4, 96, some (.agg #[.slice none 0 0, .slice none 0 0, .slice none 0 0, .slice none 0 0]), .struct #[{ name := "Tree", type := 66, offset := 0, embedded := true, tag := "", pkgPath := "", byteOffset := 0 }, { name := "tris", type := 60, offset := 2, embedded := false, tag := "", pkgPath := "penumbra/bvh", byteOffset := 48 }, { name := "at", type := 22, offset := 3, embedded := false, tag := "", pkgPath := "penumbra/bvh", byteOffset := 72 }]⟩ := tokOf (by kernel_rfl) (by kernel_rfl) (fun z h => by cases h; exact ⟨rfl, rfl⟩)
theorem tok117 : TOk P 117 ⟨4, 96, some (.agg #[.slice none 0 0, .slice none 0 0, .slice none 0 0, .slice none 0 0]), .struct #[{ name := "Tree", type := 66, offset := 0, embedded := true, tag := "", pkgPath := "", byteOffset := 0 }, { name := "tris", type := 60, offset := 2, embedded := false, tag := "", pkgPath := "penumbra/bvh", byteOffset := 48 }, { name := "at", type := 22, offset := 3, embedded := false, tag := "", pkgPath := "penumbra/bvh", byteOffset := 72 }]⟩ := tokOf (by kernel_rfl) (by kernel_rfl) (fun z h => by cases h; exact ⟨rfl, rfl⟩)
theorem tok120 : TOk P 120 ⟨1, 4, some (.int .u32 (0)), .int .u32⟩ := tokOf (by kernel_rfl) (by kernel_rfl) (fun z h => by cases h; exact ⟨rfl, rfl⟩)
theorem tok123 : TOk P 123 ⟨1, 8, some (.int .u64 (0)), .int .u64⟩ := tokOf (by kernel_rfl) (by kernel_rfl) (fun z h => by cases h; exact ⟨rfl, rfl⟩)
theorem tok124 : TOk P 124 ⟨1, 8, some (.int .u64 (0)), .int .u64⟩ := tokOf (by kernel_rfl) (by kernel_rfl) (fun z h => by cases h; exact ⟨rfl, rfl⟩)
theorem tok128 : TOk P 128 ⟨2, 16, some (.agg #[.int .i64 (0), .int .i64 (0)]), .array 2 3⟩ := tokOf (by kernel_rfl) (by kernel_rfl) (fun z h => by cases h; exact ⟨rfl, rfl⟩)
theorem tok155 : TOk P 155 ⟨0, 0, some (.agg #[]), .array 0 16⟩ := tokOf (by kernel_rfl) (by kernel_rfl) (fun z h => by cases h; exact ⟨rfl, rfl⟩)
theorem tok162 : TOk P 162 ⟨1, 8, some (.pointer none), .pointer 5⟩ := tokOf (by kernel_rfl) (by kernel_rfl) (fun z h => by cases h; exact ⟨rfl, rfl⟩)
theorem ttOk : TTok P tt := fun T i h => by
  unfold tt at h
  split at h <;> first | (cases h; done) | skip
  · cases h; exact tok2
  · cases h; exact tok3
  · cases h; exact tok4
  · cases h; exact tok5
  · cases h; exact tok9
  · cases h; exact tok12
  · cases h; exact tok21
  · cases h; exact tok22
  · cases h; exact tok23
  · cases h; exact tok26
  · cases h; exact tok27
  · cases h; exact tok28
  · cases h; exact tok29
  · cases h; exact tok30
  · cases h; exact tok31
  · cases h; exact tok32
  · cases h; exact tok38
  · cases h; exact tok39
  · cases h; exact tok47
  · cases h; exact tok52
  · cases h; exact tok53
  · cases h; exact tok54
  · cases h; exact tok55
  · cases h; exact tok60
  · cases h; exact tok63
  · cases h; exact tok64
  · cases h; exact tok65
  · cases h; exact tok66
  · cases h; exact tok74
  · cases h; exact tok86
  · cases h; exact tok90
  · cases h; exact tok102
  · cases h; exact tok103
  · cases h; exact tok104
  · cases h; exact tok105
  · cases h; exact tok107
  · cases h; exact tok108
  · cases h; exact tok115
  · cases h; exact tok116
  · cases h; exact tok117
  · cases h; exact tok120
  · cases h; exact tok123
  · cases h; exact tok124
  · cases h; exact tok128
  · cases h; exact tok155
  · cases h; exact tok162
theorem mix : P.follows .mixedOrders = true := by kernel_rfl

namespace T
abbrev int64 : TypeId := 2
abbrev int : TypeId := 3
abbrev bool : TypeId := 4
abbrev uint8 : TypeId := 5
abbrev string : TypeId := 9
abbrev uintptr : TypeId := 12
abbrev int32 : TypeId := 21
abbrev L_api_Vec : TypeId := 22
abbrev L_api_Box : TypeId := 23
abbrev L_uint32 : TypeId := 26
abbrev struct_Neg_bool_Num_L_uint32_Den_L_uint32 : TypeId := 27
abbrev api_Rat : TypeId := 28
abbrev struct_X_api_Rat_Y_api_Rat_Z_api_Rat : TypeId := 29
abbrev api_Vec : TypeId := 30
abbrev struct_Lo_api_Vec_Hi_api_Vec : TypeId := 31
abbrev api_Box : TypeId := 32
abbrev struct_From_api_Rat_To_api_Rat_Open_bool : TypeId := 38
abbrev api_Span : TypeId := 39
abbrev A2_api_Vec : TypeId := 47
abbrev struct_A_api_Vec_B_api_Vec_C_api_Vec : TypeId := 52
abbrev api_Tri : TypeId := 53
abbrev struct_S_api_Rat_U_api_Rat_V_api_Rat : TypeId := 54
abbrev api_Meet : TypeId := 55
abbrev L_api_Tri : TypeId := 60
abbrev L_api_Node : TypeId := 63
abbrev L_int : TypeId := 64
abbrev struct_Nodes_L_api_Node_Order_L_int : TypeId := 65
abbrev api_Tree : TypeId := 66
abbrev api_Errno : TypeId := 74
abbrev A3_api_Rat : TypeId := 86
abbrev L_api_Rat : TypeId := 90
abbrev P_trace_walker : TypeId := 102
abbrev L_bool : TypeId := 103
abbrev struct_api_Tree_tris_L_api_Tri_o_api_Vec_d_api_Vec_best_int_seen_L_bool_api_Meet : TypeId := 104
abbrev trace_walker : TypeId := 105
abbrev struct_api_Box_Left_int_Right_int_From_int_Count_int : TypeId := 107
abbrev api_Node : TypeId := 108
abbrev P_bvh_builder : TypeId := 115
abbrev struct_api_Tree_tris_L_api_Tri_at_L_api_Vec : TypeId := 116
abbrev bvh_builder : TypeId := 117
abbrev uint32 : TypeId := 120
abbrev uint64 : TypeId := 123
abbrev uint : TypeId := 124
abbrev A2_int : TypeId := 128
abbrev A0_P_runtime_PanicNilError : TypeId := 155
abbrev P_uint8 : TypeId := 162
end T
namespace F
abbrev main_main : FuncId := 0
abbrev gosem_cut : FuncId := 1
abbrev gosem_cut_init : FuncId := 2
abbrev penumbralaw10_BoxesLay : FuncId := 3
abbrev penumbralaw10_BoxesClip : FuncId := 4
abbrev penumbralaw10_BoxesHold : FuncId := 5
abbrev penumbralaw10_BoxesWithin : FuncId := 6
abbrev penumbralaw10_BoxesMeet : FuncId := 7
abbrev penumbralaw12_TraceMore : FuncId := 8
abbrev penumbralaw12_TraceFirst : FuncId := 9
abbrev penumbralaw12_TraceTrees : FuncId := 10
abbrev penumbralaw10_fixed : FuncId := 11
abbrev penumbraref10_Is : FuncId := 12
abbrev boxes_Around : FuncId := 13
abbrev penumbraref10_Around : FuncId := 14
abbrev boxes_Join : FuncId := 15
abbrev penumbraref10_Join : FuncId := 16
abbrev boxes_Clip : FuncId := 17
abbrev penumbraref10_Clip : FuncId := 18
abbrev penumbraref10_IsSpan : FuncId := 19
abbrev boxes_Holds : FuncId := 20
abbrev penumbraref10_Holds : FuncId := 21
abbrev rat_Same : FuncId := 22
abbrev rat_Sign : FuncId := 23
abbrev rat_Cmp : FuncId := 24
abbrev tri_At : FuncId := 25
abbrev tri_Hit : FuncId := 26
abbrev penumbraref08_At : FuncId := 27
abbrev penumbraref05_Null : FuncId := 28
abbrev penumbralaw12_fixed : FuncId := 29
abbrev trace_Nearest : FuncId := 30
abbrev penumbraref11_Tree : FuncId := 31
abbrev penumbraref08_Is : FuncId := 32
abbrev vec_Scale : FuncId := 33
abbrev rat_Of : FuncId := 34
abbrev penumbraref03_Is : FuncId := 35
abbrev rat_Product : FuncId := 36
abbrev bvh_Build : FuncId := 37
abbrev vec_Sum : FuncId := 38
abbrev trace_Blocked : FuncId := 39
abbrev vec_Of : FuncId := 40
abbrev penumbralaw10_cube : FuncId := 41
abbrev penumbraref03_Of : FuncId := 42
abbrev penumbraref03_One : FuncId := 43
abbrev penumbraref05_Is : FuncId := 44
abbrev boxes_least : FuncId := 45
abbrev boxes_most : FuncId := 46
abbrev penumbraref05_Zero : FuncId := 47
abbrev penumbraref10_join : FuncId := 48
abbrev boxes_axes : FuncId := 49
abbrev rat_Div : FuncId := 50
abbrev rat_Sub : FuncId := 51
abbrev penumbraref03_Zero : FuncId := 52
abbrev penumbraref10_edges : FuncId := 53
abbrev penumbraref10_Min : FuncId := 54
abbrev penumbraref10_Max : FuncId := 55
abbrev penumbraref03_Between : FuncId := 56
abbrev nat_Bits : FuncId := 57
abbrev nat_Cmp : FuncId := 58
abbrev nat_Mul : FuncId := 59
abbrev tri_sides : FuncId := 60
abbrev vec_Cross : FuncId := 61
abbrev vec_Dot : FuncId := 62
abbrev vec_Sub : FuncId := 63
abbrev rat_Sum : FuncId := 64
abbrev penumbraref05_Add : FuncId := 65
abbrev penumbraref05_Scale : FuncId := 66
abbrev penumbraref05_Read : FuncId := 67
abbrev penumbralaw12_unit : FuncId := 68
abbrev P_trace_walker_node : FuncId := 69
abbrev penumbraref11_corners : FuncId := 70
abbrev rat_made : FuncId := 71
abbrev rat_size : FuncId := 72
abbrev penumbraref01_Same : FuncId := 73
abbrev rat_one : FuncId := 74
abbrev rat_times : FuncId := 75
abbrev rat_Read : FuncId := 76
abbrev bvh_around : FuncId := 77
abbrev P_bvh_builder_node : FuncId := 78
abbrev penumbraref03_Read : FuncId := 79
abbrev penumbraref03_abs : FuncId := 80
abbrev rat_plus : FuncId := 81
abbrev penumbraref03_Sign : FuncId := 82
abbrev penumbraref03_Over : FuncId := 83
abbrev penumbraref03_Sub : FuncId := 84
abbrev penumbraref03_Cmp : FuncId := 85
abbrev nat_trim : FuncId := 86
abbrev math_bits_LeadingZeros32 : FuncId := 87
abbrev vec_minor : FuncId := 88
abbrev penumbraref03_Add : FuncId := 89
abbrev penumbraref03_Mul : FuncId := 90
abbrev P_trace_walker_past : FuncId := 91
abbrev P_trace_walker_leaf : FuncId := 92
abbrev nat_Norm : FuncId := 93
abbrev root_Gcd : FuncId := 94
abbrev nat_DivMod : FuncId := 95
abbrev nat_Of : FuncId := 96
abbrev P_bvh_builder_part : FuncId := 97
abbrev P_bvh_builder_widest : FuncId := 98
abbrev penumbraref01_Zero : FuncId := 99
abbrev penumbraref02_Gcd : FuncId := 100
abbrev penumbraref01_DivMod : FuncId := 101
abbrev penumbraref01_Of : FuncId := 102
abbrev rat_whole : FuncId := 103
abbrev nat_Add : FuncId := 104
abbrev nat_Sub : FuncId := 105
abbrev penumbraref03_Div : FuncId := 106
abbrev penumbraref03_Neg : FuncId := 107
abbrev math_bits_Len32 : FuncId := 108
abbrev penumbraref01_Mul : FuncId := 109
abbrev penumbraref01_Add : FuncId := 110
abbrev penumbraref01_Cmp : FuncId := 111
abbrev penumbraref01_Sub : FuncId := 112
abbrev slices_Clone_L_uint32_uint32 : FuncId := 113
abbrev nat_small : FuncId := 114
abbrev nat_long : FuncId := 115
abbrev P_bvh_builder_ahead : FuncId := 116
abbrev bvh_axis : FuncId := 117
abbrev penumbraref01_Norm : FuncId := 118
abbrev penumbraref01_Double : FuncId := 119
abbrev penumbraref01_at : FuncId := 120
abbrev penumbraref01_Half : FuncId := 121
abbrev math_bits_Add32 : FuncId := 122
abbrev math_bits_Sub32 : FuncId := 123
abbrev penumbraref01_limb : FuncId := 124
abbrev math_bits_Div32 : FuncId := 125
abbrev nat_Shl : FuncId := 126
abbrev nat_less : FuncId := 127
abbrev nat_back : FuncId := 128
abbrev nat_shr : FuncId := 129
abbrev runtime_boundsError_Error : FuncId := 130
abbrev runtime_boundsError_RuntimeError : FuncId := 131
abbrev runtime_errorString_Error : FuncId := 132
abbrev runtime_errorString_RuntimeError : FuncId := 133
abbrev runtime_plainError_Error : FuncId := 134
abbrev runtime_plainError_RuntimeError : FuncId := 135
abbrev runtime_errorAddressString_Error : FuncId := 136
abbrev runtime_errorAddressString_RuntimeError : FuncId := 137
abbrev P_runtime_TypeAssertionError_Error : FuncId := 138
abbrev P_runtime_TypeAssertionError_RuntimeError : FuncId := 139
abbrev P_runtime_PanicNilError_Error : FuncId := 140
abbrev P_runtime_PanicNilError_RuntimeError : FuncId := 141
abbrev P_internal_abi_Type_Align : FuncId := 142
abbrev internal_runtime_maps_unhashableTypeError_Error : FuncId := 143
abbrev internal_runtime_maps_unhashableTypeError_RuntimeError : FuncId := 144
abbrev internal_abi_Kind_String : FuncId := 145
end F
namespace B
noncomputable abbrev main_main : Func := Go.Proofs.Try.f0
noncomputable abbrev gosem_cut : Func := Go.Proofs.Try.f1
noncomputable abbrev gosem_cut_init : Func := Go.Proofs.Try.f2
noncomputable abbrev penumbralaw10_BoxesLay : Func := Go.Proofs.Try.f3
noncomputable abbrev penumbralaw10_BoxesClip : Func := Go.Proofs.Try.f4
noncomputable abbrev penumbralaw10_BoxesHold : Func := Go.Proofs.Try.f5
noncomputable abbrev penumbralaw10_BoxesWithin : Func := Go.Proofs.Try.f6
noncomputable abbrev penumbralaw10_BoxesMeet : Func := Go.Proofs.Try.f7
noncomputable abbrev penumbralaw12_TraceMore : Func := Go.Proofs.Try.f8
noncomputable abbrev penumbralaw12_TraceFirst : Func := Go.Proofs.Try.f9
noncomputable abbrev penumbralaw12_TraceTrees : Func := Go.Proofs.Try.f10
noncomputable abbrev penumbralaw10_fixed : Func := Go.Proofs.Try.f11
noncomputable abbrev penumbraref10_Is : Func := Go.Proofs.Try.f12
noncomputable abbrev boxes_Around : Func := Go.Proofs.Try.f13
noncomputable abbrev penumbraref10_Around : Func := Go.Proofs.Try.f14
noncomputable abbrev boxes_Join : Func := Go.Proofs.Try.f15
noncomputable abbrev penumbraref10_Join : Func := Go.Proofs.Try.f16
noncomputable abbrev boxes_Clip : Func := Go.Proofs.Try.f17
noncomputable abbrev penumbraref10_Clip : Func := Go.Proofs.Try.f18
noncomputable abbrev penumbraref10_IsSpan : Func := Go.Proofs.Try.f19
noncomputable abbrev boxes_Holds : Func := Go.Proofs.Try.f20
noncomputable abbrev penumbraref10_Holds : Func := Go.Proofs.Try.f21
noncomputable abbrev rat_Same : Func := Go.Proofs.Try.f22
noncomputable abbrev rat_Sign : Func := Go.Proofs.Try.f23
noncomputable abbrev rat_Cmp : Func := Go.Proofs.Try.f24
noncomputable abbrev tri_At : Func := Go.Proofs.Try.f25
noncomputable abbrev tri_Hit : Func := Go.Proofs.Try.f26
noncomputable abbrev penumbraref08_At : Func := Go.Proofs.Try.f27
noncomputable abbrev penumbraref05_Null : Func := Go.Proofs.Try.f28
noncomputable abbrev penumbralaw12_fixed : Func := Go.Proofs.Try.f29
noncomputable abbrev trace_Nearest : Func := Go.Proofs.Try.f30
noncomputable abbrev penumbraref11_Tree : Func := Go.Proofs.Try.f31
noncomputable abbrev penumbraref08_Is : Func := Go.Proofs.Try.f32
noncomputable abbrev vec_Scale : Func := Go.Proofs.Try.f33
noncomputable abbrev rat_Of : Func := Go.Proofs.Try.f34
noncomputable abbrev penumbraref03_Is : Func := Go.Proofs.Try.f35
noncomputable abbrev rat_Product : Func := Go.Proofs.Try.f36
noncomputable abbrev bvh_Build : Func := Go.Proofs.Try.f37
noncomputable abbrev vec_Sum : Func := Go.Proofs.Try.f38
noncomputable abbrev trace_Blocked : Func := Go.Proofs.Try.f39
noncomputable abbrev vec_Of : Func := Go.Proofs.Try.f40
noncomputable abbrev penumbralaw10_cube : Func := Go.Proofs.Try.f41
noncomputable abbrev penumbraref03_Of : Func := Go.Proofs.Try.f42
noncomputable abbrev penumbraref03_One : Func := Go.Proofs.Try.f43
noncomputable abbrev penumbraref05_Is : Func := Go.Proofs.Try.f44
noncomputable abbrev boxes_least : Func := Go.Proofs.Try.f45
noncomputable abbrev boxes_most : Func := Go.Proofs.Try.f46
noncomputable abbrev penumbraref05_Zero : Func := Go.Proofs.Try.f47
noncomputable abbrev penumbraref10_join : Func := Go.Proofs.Try.f48
noncomputable abbrev boxes_axes : Func := Go.Proofs.Try.f49
noncomputable abbrev rat_Div : Func := Go.Proofs.Try.f50
noncomputable abbrev rat_Sub : Func := Go.Proofs.Try.f51
noncomputable abbrev penumbraref03_Zero : Func := Go.Proofs.Try.f52
noncomputable abbrev penumbraref10_edges : Func := Go.Proofs.Try.f53
noncomputable abbrev penumbraref10_Min : Func := Go.Proofs.Try.f54
noncomputable abbrev penumbraref10_Max : Func := Go.Proofs.Try.f55
noncomputable abbrev penumbraref03_Between : Func := Go.Proofs.Try.f56
noncomputable abbrev nat_Bits : Func := Go.Proofs.Try.f57
noncomputable abbrev nat_Cmp : Func := Go.Proofs.Try.f58
noncomputable abbrev nat_Mul : Func := Go.Proofs.Try.f59
noncomputable abbrev tri_sides : Func := Go.Proofs.Try.f60
noncomputable abbrev vec_Cross : Func := Go.Proofs.Try.f61
noncomputable abbrev vec_Dot : Func := Go.Proofs.Try.f62
noncomputable abbrev vec_Sub : Func := Go.Proofs.Try.f63
noncomputable abbrev rat_Sum : Func := Go.Proofs.Try.f64
noncomputable abbrev penumbraref05_Add : Func := Go.Proofs.Try.f65
noncomputable abbrev penumbraref05_Scale : Func := Go.Proofs.Try.f66
noncomputable abbrev penumbraref05_Read : Func := Go.Proofs.Try.f67
noncomputable abbrev penumbralaw12_unit : Func := Go.Proofs.Try.f68
noncomputable abbrev P_trace_walker_node : Func := Go.Proofs.Try.f69
noncomputable abbrev penumbraref11_corners : Func := Go.Proofs.Try.f70
noncomputable abbrev rat_made : Func := Go.Proofs.Try.f71
noncomputable abbrev rat_size : Func := Go.Proofs.Try.f72
noncomputable abbrev penumbraref01_Same : Func := Go.Proofs.Try.f73
noncomputable abbrev rat_one : Func := Go.Proofs.Try.f74
noncomputable abbrev rat_times : Func := Go.Proofs.Try.f75
noncomputable abbrev rat_Read : Func := Go.Proofs.Try.f76
noncomputable abbrev bvh_around : Func := Go.Proofs.Try.f77
noncomputable abbrev P_bvh_builder_node : Func := Go.Proofs.Try.f78
noncomputable abbrev penumbraref03_Read : Func := Go.Proofs.Try.f79
noncomputable abbrev penumbraref03_abs : Func := Go.Proofs.Try.f80
noncomputable abbrev rat_plus : Func := Go.Proofs.Try.f81
noncomputable abbrev penumbraref03_Sign : Func := Go.Proofs.Try.f82
noncomputable abbrev penumbraref03_Over : Func := Go.Proofs.Try.f83
noncomputable abbrev penumbraref03_Sub : Func := Go.Proofs.Try.f84
noncomputable abbrev penumbraref03_Cmp : Func := Go.Proofs.Try.f85
noncomputable abbrev nat_trim : Func := Go.Proofs.Try.f86
noncomputable abbrev math_bits_LeadingZeros32 : Func := Go.Proofs.Try.f87
noncomputable abbrev vec_minor : Func := Go.Proofs.Try.f88
noncomputable abbrev penumbraref03_Add : Func := Go.Proofs.Try.f89
noncomputable abbrev penumbraref03_Mul : Func := Go.Proofs.Try.f90
noncomputable abbrev P_trace_walker_past : Func := Go.Proofs.Try.f91
noncomputable abbrev P_trace_walker_leaf : Func := Go.Proofs.Try.f92
noncomputable abbrev nat_Norm : Func := Go.Proofs.Try.f93
noncomputable abbrev root_Gcd : Func := Go.Proofs.Try.f94
noncomputable abbrev nat_DivMod : Func := Go.Proofs.Try.f95
noncomputable abbrev nat_Of : Func := Go.Proofs.Try.f96
noncomputable abbrev P_bvh_builder_part : Func := Go.Proofs.Try.f97
noncomputable abbrev P_bvh_builder_widest : Func := Go.Proofs.Try.f98
noncomputable abbrev penumbraref01_Zero : Func := Go.Proofs.Try.f99
noncomputable abbrev penumbraref02_Gcd : Func := Go.Proofs.Try.f100
noncomputable abbrev penumbraref01_DivMod : Func := Go.Proofs.Try.f101
noncomputable abbrev penumbraref01_Of : Func := Go.Proofs.Try.f102
noncomputable abbrev rat_whole : Func := Go.Proofs.Try.f103
noncomputable abbrev nat_Add : Func := Go.Proofs.Try.f104
noncomputable abbrev nat_Sub : Func := Go.Proofs.Try.f105
noncomputable abbrev penumbraref03_Div : Func := Go.Proofs.Try.f106
noncomputable abbrev penumbraref03_Neg : Func := Go.Proofs.Try.f107
noncomputable abbrev math_bits_Len32 : Func := Go.Proofs.Try.f108
noncomputable abbrev penumbraref01_Mul : Func := Go.Proofs.Try.f109
noncomputable abbrev penumbraref01_Add : Func := Go.Proofs.Try.f110
noncomputable abbrev penumbraref01_Cmp : Func := Go.Proofs.Try.f111
noncomputable abbrev penumbraref01_Sub : Func := Go.Proofs.Try.f112
noncomputable abbrev slices_Clone_L_uint32_uint32 : Func := Go.Proofs.Try.f113
noncomputable abbrev nat_small : Func := Go.Proofs.Try.f114
noncomputable abbrev nat_long : Func := Go.Proofs.Try.f115
noncomputable abbrev P_bvh_builder_ahead : Func := Go.Proofs.Try.f116
noncomputable abbrev bvh_axis : Func := Go.Proofs.Try.f117
noncomputable abbrev penumbraref01_Norm : Func := Go.Proofs.Try.f118
noncomputable abbrev penumbraref01_Double : Func := Go.Proofs.Try.f119
noncomputable abbrev penumbraref01_at : Func := Go.Proofs.Try.f120
noncomputable abbrev penumbraref01_Half : Func := Go.Proofs.Try.f121
noncomputable abbrev math_bits_Add32 : Func := Go.Proofs.Try.f122
noncomputable abbrev math_bits_Sub32 : Func := Go.Proofs.Try.f123
noncomputable abbrev penumbraref01_limb : Func := Go.Proofs.Try.f124
noncomputable abbrev math_bits_Div32 : Func := Go.Proofs.Try.f125
noncomputable abbrev nat_Shl : Func := Go.Proofs.Try.f126
noncomputable abbrev nat_less : Func := Go.Proofs.Try.f127
noncomputable abbrev nat_back : Func := Go.Proofs.Try.f128
noncomputable abbrev nat_shr : Func := Go.Proofs.Try.f129
noncomputable abbrev runtime_boundsError_Error : Func := Go.Proofs.Try.f130
noncomputable abbrev runtime_boundsError_RuntimeError : Func := Go.Proofs.Try.f131
noncomputable abbrev runtime_errorString_Error : Func := Go.Proofs.Try.f132
noncomputable abbrev runtime_errorString_RuntimeError : Func := Go.Proofs.Try.f133
noncomputable abbrev runtime_plainError_Error : Func := Go.Proofs.Try.f134
noncomputable abbrev runtime_plainError_RuntimeError : Func := Go.Proofs.Try.f135
noncomputable abbrev runtime_errorAddressString_Error : Func := Go.Proofs.Try.f136
noncomputable abbrev runtime_errorAddressString_RuntimeError : Func := Go.Proofs.Try.f137
noncomputable abbrev P_runtime_TypeAssertionError_Error : Func := Go.Proofs.Try.f138
noncomputable abbrev P_runtime_TypeAssertionError_RuntimeError : Func := Go.Proofs.Try.f139
noncomputable abbrev P_runtime_PanicNilError_Error : Func := Go.Proofs.Try.f140
noncomputable abbrev P_runtime_PanicNilError_RuntimeError : Func := Go.Proofs.Try.f141
noncomputable abbrev P_internal_abi_Type_Align : Func := Go.Proofs.Try.f142
noncomputable abbrev internal_runtime_maps_unhashableTypeError_Error : Func := Go.Proofs.Try.f143
noncomputable abbrev internal_runtime_maps_unhashableTypeError_RuntimeError : Func := Go.Proofs.Try.f144
noncomputable abbrev internal_abi_Kind_String : Func := Go.Proofs.Try.f145
end B
/-- functions that are handed blocks and write none of them -/
def ro : FuncId → Bool
  | 98 => true
  | 116 => true
  | _ => false

/-- what has been shown may be called -/
def CC (C : FuncId → List D → V → Prop) : Prop := ∀ g ds r, Good P g (ds.map V.d) [] r [] → C g ds r
def CC2 (C2 : FuncId → List V → List Blk → V → List Blk → Prop) : Prop := ∀ g args bs r bs', Good P g args bs r bs' → C2 g args bs r bs'
/-- what is to be shown of a function, its code being right and its number known -/
theorem goodOf {f : FuncId} {fn : Func} (hf : P.funcs[f]? = some fn) (hn : (fn.name == "runtime.NumGoroutine") = false) (hc : (match fn.body with | some c => codeOk fn.ntmps c | none => false) = true)
    (md : FuncId → Bool) {args : List V} {r : V} (ha : args.length ≤ fn.ntmps) (h : ∀ C C2, CC C → CC2 C2 → wpF Ω ⟨tt, C, C2, md, 0, ro⟩ fn args (fun x => x = r)) : Good P f args [] r [] :=
  good_of_wpF (envOf_ok ttOk md 0 ro) mix rfl hf hn hc ha (h _ _ (fun _ _ _ h => h) (fun _ _ _ _ _ h => h))
theorem goodOf2 {f : FuncId} {fn : Func} (hf : P.funcs[f]? = some fn) (hn : (fn.name == "runtime.NumGoroutine") = false) (hc : (match fn.body with | some c => codeOk fn.ntmps c | none => false) = true)
    (md : FuncId → Bool) {args : List V} {bs bs' : List Blk} {r : V} (hb : bs.length ≤ 1000) (ha : args.length ≤ fn.ntmps) (h : ∀ C C2, CC C → CC2 C2 → wpF2 Ω ⟨tt, C, C2, md, bs.length, ro⟩ fn args bs (fun x b => x = r ∧ b = bs')) : Good P f args bs r bs' :=
  good_of_wpF2 (envOf_ok ttOk md bs.length ro) mix rfl hb hf hn hc ha (h _ _ (fun _ _ _ h => h) (fun _ _ _ _ _ h => h))

/-- functions that are handed blocks -/
def md : FuncId → Bool
  | 69 => true
  | 78 => true
  | 91 => true
  | 92 => true
  | 97 => true
  | 98 => true
  | 116 => true
  | 127 => true
  | 128 => true
  | _ => false
namespace G
theorem penumbralaw10_BoxesLay {args : List V} {r : V} (h : ∀ C C2, CC C → CC2 C2 → wpF Ω ⟨tt, C, C2, md, 0, ro⟩ B.penumbralaw10_BoxesLay args (fun x => x = r)) (ha : args.length ≤ (B.penumbralaw10_BoxesLay).ntmps := by exact of_decide_eq_true rfl) : Good P F.penumbralaw10_BoxesLay args [] r [] := goodOf Go.Proofs.Try.func3 (by kernel_rfl) (by kernel_rfl) md ha h
theorem penumbralaw10_BoxesClip {args : List V} {r : V} (h : ∀ C C2, CC C → CC2 C2 → wpF Ω ⟨tt, C, C2, md, 0, ro⟩ B.penumbralaw10_BoxesClip args (fun x => x = r)) (ha : args.length ≤ (B.penumbralaw10_BoxesClip).ntmps := by exact of_decide_eq_true rfl) : Good P F.penumbralaw10_BoxesClip args [] r [] := goodOf Go.Proofs.Try.func4 (by kernel_rfl) (by kernel_rfl) md ha h
theorem penumbralaw10_BoxesHold {args : List V} {r : V} (h : ∀ C C2, CC C → CC2 C2 → wpF Ω ⟨tt, C, C2, md, 0, ro⟩ B.penumbralaw10_BoxesHold args (fun x => x = r)) (ha : args.length ≤ (B.penumbralaw10_BoxesHold).ntmps := by exact of_decide_eq_true rfl) : Good P F.penumbralaw10_BoxesHold args [] r [] := goodOf Go.Proofs.Try.func5 (by kernel_rfl) (by kernel_rfl) md ha h
theorem penumbralaw10_BoxesWithin {args : List V} {r : V} (h : ∀ C C2, CC C → CC2 C2 → wpF Ω ⟨tt, C, C2, md, 0, ro⟩ B.penumbralaw10_BoxesWithin args (fun x => x = r)) (ha : args.length ≤ (B.penumbralaw10_BoxesWithin).ntmps := by exact of_decide_eq_true rfl) : Good P F.penumbralaw10_BoxesWithin args [] r [] := goodOf Go.Proofs.Try.func6 (by kernel_rfl) (by kernel_rfl) md ha h
theorem penumbralaw10_BoxesMeet {args : List V} {r : V} (h : ∀ C C2, CC C → CC2 C2 → wpF Ω ⟨tt, C, C2, md, 0, ro⟩ B.penumbralaw10_BoxesMeet args (fun x => x = r)) (ha : args.length ≤ (B.penumbralaw10_BoxesMeet).ntmps := by exact of_decide_eq_true rfl) : Good P F.penumbralaw10_BoxesMeet args [] r [] := goodOf Go.Proofs.Try.func7 (by kernel_rfl) (by kernel_rfl) md ha h
theorem penumbralaw12_TraceMore {args : List V} {r : V} (h : ∀ C C2, CC C → CC2 C2 → wpF Ω ⟨tt, C, C2, md, 0, ro⟩ B.penumbralaw12_TraceMore args (fun x => x = r)) (ha : args.length ≤ (B.penumbralaw12_TraceMore).ntmps := by exact of_decide_eq_true rfl) : Good P F.penumbralaw12_TraceMore args [] r [] := goodOf Go.Proofs.Try.func8 (by kernel_rfl) (by kernel_rfl) md ha h
theorem penumbralaw12_TraceFirst {args : List V} {r : V} (h : ∀ C C2, CC C → CC2 C2 → wpF Ω ⟨tt, C, C2, md, 0, ro⟩ B.penumbralaw12_TraceFirst args (fun x => x = r)) (ha : args.length ≤ (B.penumbralaw12_TraceFirst).ntmps := by exact of_decide_eq_true rfl) : Good P F.penumbralaw12_TraceFirst args [] r [] := goodOf Go.Proofs.Try.func9 (by kernel_rfl) (by kernel_rfl) md ha h
theorem penumbralaw12_TraceTrees {args : List V} {r : V} (h : ∀ C C2, CC C → CC2 C2 → wpF Ω ⟨tt, C, C2, md, 0, ro⟩ B.penumbralaw12_TraceTrees args (fun x => x = r)) (ha : args.length ≤ (B.penumbralaw12_TraceTrees).ntmps := by exact of_decide_eq_true rfl) : Good P F.penumbralaw12_TraceTrees args [] r [] := goodOf Go.Proofs.Try.func10 (by kernel_rfl) (by kernel_rfl) md ha h
theorem penumbralaw10_fixed {args : List V} {r : V} (h : ∀ C C2, CC C → CC2 C2 → wpF Ω ⟨tt, C, C2, md, 0, ro⟩ B.penumbralaw10_fixed args (fun x => x = r)) (ha : args.length ≤ (B.penumbralaw10_fixed).ntmps := by exact of_decide_eq_true rfl) : Good P F.penumbralaw10_fixed args [] r [] := goodOf Go.Proofs.Try.func11 (by kernel_rfl) (by kernel_rfl) md ha h
theorem penumbraref10_Is {args : List V} {r : V} (h : ∀ C C2, CC C → CC2 C2 → wpF Ω ⟨tt, C, C2, md, 0, ro⟩ B.penumbraref10_Is args (fun x => x = r)) (ha : args.length ≤ (B.penumbraref10_Is).ntmps := by exact of_decide_eq_true rfl) : Good P F.penumbraref10_Is args [] r [] := goodOf Go.Proofs.Try.func12 (by kernel_rfl) (by kernel_rfl) md ha h
theorem boxes_Around {args : List V} {r : V} (h : ∀ C C2, CC C → CC2 C2 → wpF Ω ⟨tt, C, C2, md, 0, ro⟩ B.boxes_Around args (fun x => x = r)) (ha : args.length ≤ (B.boxes_Around).ntmps := by exact of_decide_eq_true rfl) : Good P F.boxes_Around args [] r [] := goodOf Go.Proofs.Try.func13 (by kernel_rfl) (by kernel_rfl) md ha h
theorem penumbraref10_Around {args : List V} {r : V} (h : ∀ C C2, CC C → CC2 C2 → wpF Ω ⟨tt, C, C2, md, 0, ro⟩ B.penumbraref10_Around args (fun x => x = r)) (ha : args.length ≤ (B.penumbraref10_Around).ntmps := by exact of_decide_eq_true rfl) : Good P F.penumbraref10_Around args [] r [] := goodOf Go.Proofs.Try.func14 (by kernel_rfl) (by kernel_rfl) md ha h
theorem boxes_Join {args : List V} {r : V} (h : ∀ C C2, CC C → CC2 C2 → wpF Ω ⟨tt, C, C2, md, 0, ro⟩ B.boxes_Join args (fun x => x = r)) (ha : args.length ≤ (B.boxes_Join).ntmps := by exact of_decide_eq_true rfl) : Good P F.boxes_Join args [] r [] := goodOf Go.Proofs.Try.func15 (by kernel_rfl) (by kernel_rfl) md ha h
theorem penumbraref10_Join {args : List V} {r : V} (h : ∀ C C2, CC C → CC2 C2 → wpF Ω ⟨tt, C, C2, md, 0, ro⟩ B.penumbraref10_Join args (fun x => x = r)) (ha : args.length ≤ (B.penumbraref10_Join).ntmps := by exact of_decide_eq_true rfl) : Good P F.penumbraref10_Join args [] r [] := goodOf Go.Proofs.Try.func16 (by kernel_rfl) (by kernel_rfl) md ha h
theorem boxes_Clip {args : List V} {r : V} (h : ∀ C C2, CC C → CC2 C2 → wpF Ω ⟨tt, C, C2, md, 0, ro⟩ B.boxes_Clip args (fun x => x = r)) (ha : args.length ≤ (B.boxes_Clip).ntmps := by exact of_decide_eq_true rfl) : Good P F.boxes_Clip args [] r [] := goodOf Go.Proofs.Try.func17 (by kernel_rfl) (by kernel_rfl) md ha h
theorem penumbraref10_Clip {args : List V} {r : V} (h : ∀ C C2, CC C → CC2 C2 → wpF Ω ⟨tt, C, C2, md, 0, ro⟩ B.penumbraref10_Clip args (fun x => x = r)) (ha : args.length ≤ (B.penumbraref10_Clip).ntmps := by exact of_decide_eq_true rfl) : Good P F.penumbraref10_Clip args [] r [] := goodOf Go.Proofs.Try.func18 (by kernel_rfl) (by kernel_rfl) md ha h
theorem penumbraref10_IsSpan {args : List V} {r : V} (h : ∀ C C2, CC C → CC2 C2 → wpF Ω ⟨tt, C, C2, md, 0, ro⟩ B.penumbraref10_IsSpan args (fun x => x = r)) (ha : args.length ≤ (B.penumbraref10_IsSpan).ntmps := by exact of_decide_eq_true rfl) : Good P F.penumbraref10_IsSpan args [] r [] := goodOf Go.Proofs.Try.func19 (by kernel_rfl) (by kernel_rfl) md ha h
theorem boxes_Holds {args : List V} {r : V} (h : ∀ C C2, CC C → CC2 C2 → wpF Ω ⟨tt, C, C2, md, 0, ro⟩ B.boxes_Holds args (fun x => x = r)) (ha : args.length ≤ (B.boxes_Holds).ntmps := by exact of_decide_eq_true rfl) : Good P F.boxes_Holds args [] r [] := goodOf Go.Proofs.Try.func20 (by kernel_rfl) (by kernel_rfl) md ha h
theorem penumbraref10_Holds {args : List V} {r : V} (h : ∀ C C2, CC C → CC2 C2 → wpF Ω ⟨tt, C, C2, md, 0, ro⟩ B.penumbraref10_Holds args (fun x => x = r)) (ha : args.length ≤ (B.penumbraref10_Holds).ntmps := by exact of_decide_eq_true rfl) : Good P F.penumbraref10_Holds args [] r [] := goodOf Go.Proofs.Try.func21 (by kernel_rfl) (by kernel_rfl) md ha h
theorem rat_Same {args : List V} {r : V} (h : ∀ C C2, CC C → CC2 C2 → wpF Ω ⟨tt, C, C2, md, 0, ro⟩ B.rat_Same args (fun x => x = r)) (ha : args.length ≤ (B.rat_Same).ntmps := by exact of_decide_eq_true rfl) : Good P F.rat_Same args [] r [] := goodOf Go.Proofs.Try.func22 (by kernel_rfl) (by kernel_rfl) md ha h
theorem rat_Sign {args : List V} {r : V} (h : ∀ C C2, CC C → CC2 C2 → wpF Ω ⟨tt, C, C2, md, 0, ro⟩ B.rat_Sign args (fun x => x = r)) (ha : args.length ≤ (B.rat_Sign).ntmps := by exact of_decide_eq_true rfl) : Good P F.rat_Sign args [] r [] := goodOf Go.Proofs.Try.func23 (by kernel_rfl) (by kernel_rfl) md ha h
theorem rat_Cmp {args : List V} {r : V} (h : ∀ C C2, CC C → CC2 C2 → wpF Ω ⟨tt, C, C2, md, 0, ro⟩ B.rat_Cmp args (fun x => x = r)) (ha : args.length ≤ (B.rat_Cmp).ntmps := by exact of_decide_eq_true rfl) : Good P F.rat_Cmp args [] r [] := goodOf Go.Proofs.Try.func24 (by kernel_rfl) (by kernel_rfl) md ha h
theorem tri_At {args : List V} {r : V} (h : ∀ C C2, CC C → CC2 C2 → wpF Ω ⟨tt, C, C2, md, 0, ro⟩ B.tri_At args (fun x => x = r)) (ha : args.length ≤ (B.tri_At).ntmps := by exact of_decide_eq_true rfl) : Good P F.tri_At args [] r [] := goodOf Go.Proofs.Try.func25 (by kernel_rfl) (by kernel_rfl) md ha h
theorem tri_Hit {args : List V} {r : V} (h : ∀ C C2, CC C → CC2 C2 → wpF Ω ⟨tt, C, C2, md, 0, ro⟩ B.tri_Hit args (fun x => x = r)) (ha : args.length ≤ (B.tri_Hit).ntmps := by exact of_decide_eq_true rfl) : Good P F.tri_Hit args [] r [] := goodOf Go.Proofs.Try.func26 (by kernel_rfl) (by kernel_rfl) md ha h
theorem penumbraref08_At {args : List V} {r : V} (h : ∀ C C2, CC C → CC2 C2 → wpF Ω ⟨tt, C, C2, md, 0, ro⟩ B.penumbraref08_At args (fun x => x = r)) (ha : args.length ≤ (B.penumbraref08_At).ntmps := by exact of_decide_eq_true rfl) : Good P F.penumbraref08_At args [] r [] := goodOf Go.Proofs.Try.func27 (by kernel_rfl) (by kernel_rfl) md ha h
theorem penumbraref05_Null {args : List V} {r : V} (h : ∀ C C2, CC C → CC2 C2 → wpF Ω ⟨tt, C, C2, md, 0, ro⟩ B.penumbraref05_Null args (fun x => x = r)) (ha : args.length ≤ (B.penumbraref05_Null).ntmps := by exact of_decide_eq_true rfl) : Good P F.penumbraref05_Null args [] r [] := goodOf Go.Proofs.Try.func28 (by kernel_rfl) (by kernel_rfl) md ha h
theorem penumbralaw12_fixed {args : List V} {r : V} (h : ∀ C C2, CC C → CC2 C2 → wpF Ω ⟨tt, C, C2, md, 0, ro⟩ B.penumbralaw12_fixed args (fun x => x = r)) (ha : args.length ≤ (B.penumbralaw12_fixed).ntmps := by exact of_decide_eq_true rfl) : Good P F.penumbralaw12_fixed args [] r [] := goodOf Go.Proofs.Try.func29 (by kernel_rfl) (by kernel_rfl) md ha h
theorem trace_Nearest {args : List V} {r : V} (h : ∀ C C2, CC C → CC2 C2 → wpF Ω ⟨tt, C, C2, md, 0, ro⟩ B.trace_Nearest args (fun x => x = r)) (ha : args.length ≤ (B.trace_Nearest).ntmps := by exact of_decide_eq_true rfl) : Good P F.trace_Nearest args [] r [] := goodOf Go.Proofs.Try.func30 (by kernel_rfl) (by kernel_rfl) md ha h
theorem penumbraref11_Tree {args : List V} {r : V} (h : ∀ C C2, CC C → CC2 C2 → wpF Ω ⟨tt, C, C2, md, 0, ro⟩ B.penumbraref11_Tree args (fun x => x = r)) (ha : args.length ≤ (B.penumbraref11_Tree).ntmps := by exact of_decide_eq_true rfl) : Good P F.penumbraref11_Tree args [] r [] := goodOf Go.Proofs.Try.func31 (by kernel_rfl) (by kernel_rfl) md ha h
theorem penumbraref08_Is {args : List V} {r : V} (h : ∀ C C2, CC C → CC2 C2 → wpF Ω ⟨tt, C, C2, md, 0, ro⟩ B.penumbraref08_Is args (fun x => x = r)) (ha : args.length ≤ (B.penumbraref08_Is).ntmps := by exact of_decide_eq_true rfl) : Good P F.penumbraref08_Is args [] r [] := goodOf Go.Proofs.Try.func32 (by kernel_rfl) (by kernel_rfl) md ha h
theorem vec_Scale {args : List V} {r : V} (h : ∀ C C2, CC C → CC2 C2 → wpF Ω ⟨tt, C, C2, md, 0, ro⟩ B.vec_Scale args (fun x => x = r)) (ha : args.length ≤ (B.vec_Scale).ntmps := by exact of_decide_eq_true rfl) : Good P F.vec_Scale args [] r [] := goodOf Go.Proofs.Try.func33 (by kernel_rfl) (by kernel_rfl) md ha h
theorem rat_Of {args : List V} {r : V} (h : ∀ C C2, CC C → CC2 C2 → wpF Ω ⟨tt, C, C2, md, 0, ro⟩ B.rat_Of args (fun x => x = r)) (ha : args.length ≤ (B.rat_Of).ntmps := by exact of_decide_eq_true rfl) : Good P F.rat_Of args [] r [] := goodOf Go.Proofs.Try.func34 (by kernel_rfl) (by kernel_rfl) md ha h
theorem penumbraref03_Is {args : List V} {r : V} (h : ∀ C C2, CC C → CC2 C2 → wpF Ω ⟨tt, C, C2, md, 0, ro⟩ B.penumbraref03_Is args (fun x => x = r)) (ha : args.length ≤ (B.penumbraref03_Is).ntmps := by exact of_decide_eq_true rfl) : Good P F.penumbraref03_Is args [] r [] := goodOf Go.Proofs.Try.func35 (by kernel_rfl) (by kernel_rfl) md ha h
theorem rat_Product {args : List V} {r : V} (h : ∀ C C2, CC C → CC2 C2 → wpF Ω ⟨tt, C, C2, md, 0, ro⟩ B.rat_Product args (fun x => x = r)) (ha : args.length ≤ (B.rat_Product).ntmps := by exact of_decide_eq_true rfl) : Good P F.rat_Product args [] r [] := goodOf Go.Proofs.Try.func36 (by kernel_rfl) (by kernel_rfl) md ha h
theorem bvh_Build {args : List V} {r : V} (h : ∀ C C2, CC C → CC2 C2 → wpF Ω ⟨tt, C, C2, md, 0, ro⟩ B.bvh_Build args (fun x => x = r)) (ha : args.length ≤ (B.bvh_Build).ntmps := by exact of_decide_eq_true rfl) : Good P F.bvh_Build args [] r [] := goodOf Go.Proofs.Try.func37 (by kernel_rfl) (by kernel_rfl) md ha h
theorem vec_Sum {args : List V} {r : V} (h : ∀ C C2, CC C → CC2 C2 → wpF Ω ⟨tt, C, C2, md, 0, ro⟩ B.vec_Sum args (fun x => x = r)) (ha : args.length ≤ (B.vec_Sum).ntmps := by exact of_decide_eq_true rfl) : Good P F.vec_Sum args [] r [] := goodOf Go.Proofs.Try.func38 (by kernel_rfl) (by kernel_rfl) md ha h
theorem trace_Blocked {args : List V} {r : V} (h : ∀ C C2, CC C → CC2 C2 → wpF Ω ⟨tt, C, C2, md, 0, ro⟩ B.trace_Blocked args (fun x => x = r)) (ha : args.length ≤ (B.trace_Blocked).ntmps := by exact of_decide_eq_true rfl) : Good P F.trace_Blocked args [] r [] := goodOf Go.Proofs.Try.func39 (by kernel_rfl) (by kernel_rfl) md ha h
theorem vec_Of {args : List V} {r : V} (h : ∀ C C2, CC C → CC2 C2 → wpF Ω ⟨tt, C, C2, md, 0, ro⟩ B.vec_Of args (fun x => x = r)) (ha : args.length ≤ (B.vec_Of).ntmps := by exact of_decide_eq_true rfl) : Good P F.vec_Of args [] r [] := goodOf Go.Proofs.Try.func40 (by kernel_rfl) (by kernel_rfl) md ha h
theorem penumbralaw10_cube {args : List V} {r : V} (h : ∀ C C2, CC C → CC2 C2 → wpF Ω ⟨tt, C, C2, md, 0, ro⟩ B.penumbralaw10_cube args (fun x => x = r)) (ha : args.length ≤ (B.penumbralaw10_cube).ntmps := by exact of_decide_eq_true rfl) : Good P F.penumbralaw10_cube args [] r [] := goodOf Go.Proofs.Try.func41 (by kernel_rfl) (by kernel_rfl) md ha h
theorem penumbraref03_Of {args : List V} {r : V} (h : ∀ C C2, CC C → CC2 C2 → wpF Ω ⟨tt, C, C2, md, 0, ro⟩ B.penumbraref03_Of args (fun x => x = r)) (ha : args.length ≤ (B.penumbraref03_Of).ntmps := by exact of_decide_eq_true rfl) : Good P F.penumbraref03_Of args [] r [] := goodOf Go.Proofs.Try.func42 (by kernel_rfl) (by kernel_rfl) md ha h
theorem penumbraref03_One {args : List V} {r : V} (h : ∀ C C2, CC C → CC2 C2 → wpF Ω ⟨tt, C, C2, md, 0, ro⟩ B.penumbraref03_One args (fun x => x = r)) (ha : args.length ≤ (B.penumbraref03_One).ntmps := by exact of_decide_eq_true rfl) : Good P F.penumbraref03_One args [] r [] := goodOf Go.Proofs.Try.func43 (by kernel_rfl) (by kernel_rfl) md ha h
theorem penumbraref05_Is {args : List V} {r : V} (h : ∀ C C2, CC C → CC2 C2 → wpF Ω ⟨tt, C, C2, md, 0, ro⟩ B.penumbraref05_Is args (fun x => x = r)) (ha : args.length ≤ (B.penumbraref05_Is).ntmps := by exact of_decide_eq_true rfl) : Good P F.penumbraref05_Is args [] r [] := goodOf Go.Proofs.Try.func44 (by kernel_rfl) (by kernel_rfl) md ha h
theorem boxes_least {args : List V} {r : V} (h : ∀ C C2, CC C → CC2 C2 → wpF Ω ⟨tt, C, C2, md, 0, ro⟩ B.boxes_least args (fun x => x = r)) (ha : args.length ≤ (B.boxes_least).ntmps := by exact of_decide_eq_true rfl) : Good P F.boxes_least args [] r [] := goodOf Go.Proofs.Try.func45 (by kernel_rfl) (by kernel_rfl) md ha h
theorem boxes_most {args : List V} {r : V} (h : ∀ C C2, CC C → CC2 C2 → wpF Ω ⟨tt, C, C2, md, 0, ro⟩ B.boxes_most args (fun x => x = r)) (ha : args.length ≤ (B.boxes_most).ntmps := by exact of_decide_eq_true rfl) : Good P F.boxes_most args [] r [] := goodOf Go.Proofs.Try.func46 (by kernel_rfl) (by kernel_rfl) md ha h
theorem penumbraref05_Zero {args : List V} {r : V} (h : ∀ C C2, CC C → CC2 C2 → wpF Ω ⟨tt, C, C2, md, 0, ro⟩ B.penumbraref05_Zero args (fun x => x = r)) (ha : args.length ≤ (B.penumbraref05_Zero).ntmps := by exact of_decide_eq_true rfl) : Good P F.penumbraref05_Zero args [] r [] := goodOf Go.Proofs.Try.func47 (by kernel_rfl) (by kernel_rfl) md ha h
theorem penumbraref10_join {args : List V} {r : V} (h : ∀ C C2, CC C → CC2 C2 → wpF Ω ⟨tt, C, C2, md, 0, ro⟩ B.penumbraref10_join args (fun x => x = r)) (ha : args.length ≤ (B.penumbraref10_join).ntmps := by exact of_decide_eq_true rfl) : Good P F.penumbraref10_join args [] r [] := goodOf Go.Proofs.Try.func48 (by kernel_rfl) (by kernel_rfl) md ha h
theorem boxes_axes {args : List V} {r : V} (h : ∀ C C2, CC C → CC2 C2 → wpF Ω ⟨tt, C, C2, md, 0, ro⟩ B.boxes_axes args (fun x => x = r)) (ha : args.length ≤ (B.boxes_axes).ntmps := by exact of_decide_eq_true rfl) : Good P F.boxes_axes args [] r [] := goodOf Go.Proofs.Try.func49 (by kernel_rfl) (by kernel_rfl) md ha h
theorem rat_Div {args : List V} {r : V} (h : ∀ C C2, CC C → CC2 C2 → wpF Ω ⟨tt, C, C2, md, 0, ro⟩ B.rat_Div args (fun x => x = r)) (ha : args.length ≤ (B.rat_Div).ntmps := by exact of_decide_eq_true rfl) : Good P F.rat_Div args [] r [] := goodOf Go.Proofs.Try.func50 (by kernel_rfl) (by kernel_rfl) md ha h
theorem rat_Sub {args : List V} {r : V} (h : ∀ C C2, CC C → CC2 C2 → wpF Ω ⟨tt, C, C2, md, 0, ro⟩ B.rat_Sub args (fun x => x = r)) (ha : args.length ≤ (B.rat_Sub).ntmps := by exact of_decide_eq_true rfl) : Good P F.rat_Sub args [] r [] := goodOf Go.Proofs.Try.func51 (by kernel_rfl) (by kernel_rfl) md ha h
theorem penumbraref03_Zero {args : List V} {r : V} (h : ∀ C C2, CC C → CC2 C2 → wpF Ω ⟨tt, C, C2, md, 0, ro⟩ B.penumbraref03_Zero args (fun x => x = r)) (ha : args.length ≤ (B.penumbraref03_Zero).ntmps := by exact of_decide_eq_true rfl) : Good P F.penumbraref03_Zero args [] r [] := goodOf Go.Proofs.Try.func52 (by kernel_rfl) (by kernel_rfl) md ha h
theorem penumbraref10_edges {args : List V} {r : V} (h : ∀ C C2, CC C → CC2 C2 → wpF Ω ⟨tt, C, C2, md, 0, ro⟩ B.penumbraref10_edges args (fun x => x = r)) (ha : args.length ≤ (B.penumbraref10_edges).ntmps := by exact of_decide_eq_true rfl) : Good P F.penumbraref10_edges args [] r [] := goodOf Go.Proofs.Try.func53 (by kernel_rfl) (by kernel_rfl) md ha h
theorem penumbraref10_Min {args : List V} {r : V} (h : ∀ C C2, CC C → CC2 C2 → wpF Ω ⟨tt, C, C2, md, 0, ro⟩ B.penumbraref10_Min args (fun x => x = r)) (ha : args.length ≤ (B.penumbraref10_Min).ntmps := by exact of_decide_eq_true rfl) : Good P F.penumbraref10_Min args [] r [] := goodOf Go.Proofs.Try.func54 (by kernel_rfl) (by kernel_rfl) md ha h
theorem penumbraref10_Max {args : List V} {r : V} (h : ∀ C C2, CC C → CC2 C2 → wpF Ω ⟨tt, C, C2, md, 0, ro⟩ B.penumbraref10_Max args (fun x => x = r)) (ha : args.length ≤ (B.penumbraref10_Max).ntmps := by exact of_decide_eq_true rfl) : Good P F.penumbraref10_Max args [] r [] := goodOf Go.Proofs.Try.func55 (by kernel_rfl) (by kernel_rfl) md ha h
theorem penumbraref03_Between {args : List V} {r : V} (h : ∀ C C2, CC C → CC2 C2 → wpF Ω ⟨tt, C, C2, md, 0, ro⟩ B.penumbraref03_Between args (fun x => x = r)) (ha : args.length ≤ (B.penumbraref03_Between).ntmps := by exact of_decide_eq_true rfl) : Good P F.penumbraref03_Between args [] r [] := goodOf Go.Proofs.Try.func56 (by kernel_rfl) (by kernel_rfl) md ha h
theorem nat_Bits {args : List V} {r : V} (h : ∀ C C2, CC C → CC2 C2 → wpF Ω ⟨tt, C, C2, md, 0, ro⟩ B.nat_Bits args (fun x => x = r)) (ha : args.length ≤ (B.nat_Bits).ntmps := by exact of_decide_eq_true rfl) : Good P F.nat_Bits args [] r [] := goodOf Go.Proofs.Try.func57 (by kernel_rfl) (by kernel_rfl) md ha h
theorem nat_Cmp {args : List V} {r : V} (h : ∀ C C2, CC C → CC2 C2 → wpF Ω ⟨tt, C, C2, md, 0, ro⟩ B.nat_Cmp args (fun x => x = r)) (ha : args.length ≤ (B.nat_Cmp).ntmps := by exact of_decide_eq_true rfl) : Good P F.nat_Cmp args [] r [] := goodOf Go.Proofs.Try.func58 (by kernel_rfl) (by kernel_rfl) md ha h
theorem nat_Mul {args : List V} {r : V} (h : ∀ C C2, CC C → CC2 C2 → wpF Ω ⟨tt, C, C2, md, 0, ro⟩ B.nat_Mul args (fun x => x = r)) (ha : args.length ≤ (B.nat_Mul).ntmps := by exact of_decide_eq_true rfl) : Good P F.nat_Mul args [] r [] := goodOf Go.Proofs.Try.func59 (by kernel_rfl) (by kernel_rfl) md ha h
theorem tri_sides {args : List V} {r : V} (h : ∀ C C2, CC C → CC2 C2 → wpF Ω ⟨tt, C, C2, md, 0, ro⟩ B.tri_sides args (fun x => x = r)) (ha : args.length ≤ (B.tri_sides).ntmps := by exact of_decide_eq_true rfl) : Good P F.tri_sides args [] r [] := goodOf Go.Proofs.Try.func60 (by kernel_rfl) (by kernel_rfl) md ha h
theorem vec_Cross {args : List V} {r : V} (h : ∀ C C2, CC C → CC2 C2 → wpF Ω ⟨tt, C, C2, md, 0, ro⟩ B.vec_Cross args (fun x => x = r)) (ha : args.length ≤ (B.vec_Cross).ntmps := by exact of_decide_eq_true rfl) : Good P F.vec_Cross args [] r [] := goodOf Go.Proofs.Try.func61 (by kernel_rfl) (by kernel_rfl) md ha h
theorem vec_Dot {args : List V} {r : V} (h : ∀ C C2, CC C → CC2 C2 → wpF Ω ⟨tt, C, C2, md, 0, ro⟩ B.vec_Dot args (fun x => x = r)) (ha : args.length ≤ (B.vec_Dot).ntmps := by exact of_decide_eq_true rfl) : Good P F.vec_Dot args [] r [] := goodOf Go.Proofs.Try.func62 (by kernel_rfl) (by kernel_rfl) md ha h
theorem vec_Sub {args : List V} {r : V} (h : ∀ C C2, CC C → CC2 C2 → wpF Ω ⟨tt, C, C2, md, 0, ro⟩ B.vec_Sub args (fun x => x = r)) (ha : args.length ≤ (B.vec_Sub).ntmps := by exact of_decide_eq_true rfl) : Good P F.vec_Sub args [] r [] := goodOf Go.Proofs.Try.func63 (by kernel_rfl) (by kernel_rfl) md ha h
theorem rat_Sum {args : List V} {r : V} (h : ∀ C C2, CC C → CC2 C2 → wpF Ω ⟨tt, C, C2, md, 0, ro⟩ B.rat_Sum args (fun x => x = r)) (ha : args.length ≤ (B.rat_Sum).ntmps := by exact of_decide_eq_true rfl) : Good P F.rat_Sum args [] r [] := goodOf Go.Proofs.Try.func64 (by kernel_rfl) (by kernel_rfl) md ha h
theorem penumbraref05_Add {args : List V} {r : V} (h : ∀ C C2, CC C → CC2 C2 → wpF Ω ⟨tt, C, C2, md, 0, ro⟩ B.penumbraref05_Add args (fun x => x = r)) (ha : args.length ≤ (B.penumbraref05_Add).ntmps := by exact of_decide_eq_true rfl) : Good P F.penumbraref05_Add args [] r [] := goodOf Go.Proofs.Try.func65 (by kernel_rfl) (by kernel_rfl) md ha h
theorem penumbraref05_Scale {args : List V} {r : V} (h : ∀ C C2, CC C → CC2 C2 → wpF Ω ⟨tt, C, C2, md, 0, ro⟩ B.penumbraref05_Scale args (fun x => x = r)) (ha : args.length ≤ (B.penumbraref05_Scale).ntmps := by exact of_decide_eq_true rfl) : Good P F.penumbraref05_Scale args [] r [] := goodOf Go.Proofs.Try.func66 (by kernel_rfl) (by kernel_rfl) md ha h
theorem penumbraref05_Read {args : List V} {r : V} (h : ∀ C C2, CC C → CC2 C2 → wpF Ω ⟨tt, C, C2, md, 0, ro⟩ B.penumbraref05_Read args (fun x => x = r)) (ha : args.length ≤ (B.penumbraref05_Read).ntmps := by exact of_decide_eq_true rfl) : Good P F.penumbraref05_Read args [] r [] := goodOf Go.Proofs.Try.func67 (by kernel_rfl) (by kernel_rfl) md ha h
theorem penumbralaw12_unit {args : List V} {r : V} (h : ∀ C C2, CC C → CC2 C2 → wpF Ω ⟨tt, C, C2, md, 0, ro⟩ B.penumbralaw12_unit args (fun x => x = r)) (ha : args.length ≤ (B.penumbralaw12_unit).ntmps := by exact of_decide_eq_true rfl) : Good P F.penumbralaw12_unit args [] r [] := goodOf Go.Proofs.Try.func68 (by kernel_rfl) (by kernel_rfl) md ha h
theorem P_trace_walker_node {args : List V} {bs bs' : List Blk} {r : V} (h : ∀ C C2, CC C → CC2 C2 → wpF2 Ω ⟨tt, C, C2, md, bs.length, ro⟩ B.P_trace_walker_node args bs (fun x b => x = r ∧ b = bs')) (hb : bs.length ≤ 1000 := by decide) (ha : args.length ≤ (B.P_trace_walker_node).ntmps := by exact of_decide_eq_true rfl) : Good P F.P_trace_walker_node args bs r bs' := goodOf2 Go.Proofs.Try.func69 (by kernel_rfl) (by kernel_rfl) md hb ha h
theorem penumbraref11_corners {args : List V} {r : V} (h : ∀ C C2, CC C → CC2 C2 → wpF Ω ⟨tt, C, C2, md, 0, ro⟩ B.penumbraref11_corners args (fun x => x = r)) (ha : args.length ≤ (B.penumbraref11_corners).ntmps := by exact of_decide_eq_true rfl) : Good P F.penumbraref11_corners args [] r [] := goodOf Go.Proofs.Try.func70 (by kernel_rfl) (by kernel_rfl) md ha h
theorem rat_made {args : List V} {r : V} (h : ∀ C C2, CC C → CC2 C2 → wpF Ω ⟨tt, C, C2, md, 0, ro⟩ B.rat_made args (fun x => x = r)) (ha : args.length ≤ (B.rat_made).ntmps := by exact of_decide_eq_true rfl) : Good P F.rat_made args [] r [] := goodOf Go.Proofs.Try.func71 (by kernel_rfl) (by kernel_rfl) md ha h
theorem rat_size {args : List V} {r : V} (h : ∀ C C2, CC C → CC2 C2 → wpF Ω ⟨tt, C, C2, md, 0, ro⟩ B.rat_size args (fun x => x = r)) (ha : args.length ≤ (B.rat_size).ntmps := by exact of_decide_eq_true rfl) : Good P F.rat_size args [] r [] := goodOf Go.Proofs.Try.func72 (by kernel_rfl) (by kernel_rfl) md ha h
theorem penumbraref01_Same {args : List V} {r : V} (h : ∀ C C2, CC C → CC2 C2 → wpF Ω ⟨tt, C, C2, md, 0, ro⟩ B.penumbraref01_Same args (fun x => x = r)) (ha : args.length ≤ (B.penumbraref01_Same).ntmps := by exact of_decide_eq_true rfl) : Good P F.penumbraref01_Same args [] r [] := goodOf Go.Proofs.Try.func73 (by kernel_rfl) (by kernel_rfl) md ha h
theorem rat_one {args : List V} {r : V} (h : ∀ C C2, CC C → CC2 C2 → wpF Ω ⟨tt, C, C2, md, 0, ro⟩ B.rat_one args (fun x => x = r)) (ha : args.length ≤ (B.rat_one).ntmps := by exact of_decide_eq_true rfl) : Good P F.rat_one args [] r [] := goodOf Go.Proofs.Try.func74 (by kernel_rfl) (by kernel_rfl) md ha h
theorem rat_times {args : List V} {r : V} (h : ∀ C C2, CC C → CC2 C2 → wpF Ω ⟨tt, C, C2, md, 0, ro⟩ B.rat_times args (fun x => x = r)) (ha : args.length ≤ (B.rat_times).ntmps := by exact of_decide_eq_true rfl) : Good P F.rat_times args [] r [] := goodOf Go.Proofs.Try.func75 (by kernel_rfl) (by kernel_rfl) md ha h
theorem rat_Read {args : List V} {r : V} (h : ∀ C C2, CC C → CC2 C2 → wpF Ω ⟨tt, C, C2, md, 0, ro⟩ B.rat_Read args (fun x => x = r)) (ha : args.length ≤ (B.rat_Read).ntmps := by exact of_decide_eq_true rfl) : Good P F.rat_Read args [] r [] := goodOf Go.Proofs.Try.func76 (by kernel_rfl) (by kernel_rfl) md ha h
theorem bvh_around {args : List V} {r : V} (h : ∀ C C2, CC C → CC2 C2 → wpF Ω ⟨tt, C, C2, md, 0, ro⟩ B.bvh_around args (fun x => x = r)) (ha : args.length ≤ (B.bvh_around).ntmps := by exact of_decide_eq_true rfl) : Good P F.bvh_around args [] r [] := goodOf Go.Proofs.Try.func77 (by kernel_rfl) (by kernel_rfl) md ha h
theorem P_bvh_builder_node {args : List V} {bs bs' : List Blk} {r : V} (h : ∀ C C2, CC C → CC2 C2 → wpF2 Ω ⟨tt, C, C2, md, bs.length, ro⟩ B.P_bvh_builder_node args bs (fun x b => x = r ∧ b = bs')) (hb : bs.length ≤ 1000 := by decide) (ha : args.length ≤ (B.P_bvh_builder_node).ntmps := by exact of_decide_eq_true rfl) : Good P F.P_bvh_builder_node args bs r bs' := goodOf2 Go.Proofs.Try.func78 (by kernel_rfl) (by kernel_rfl) md hb ha h
theorem penumbraref03_Read {args : List V} {r : V} (h : ∀ C C2, CC C → CC2 C2 → wpF Ω ⟨tt, C, C2, md, 0, ro⟩ B.penumbraref03_Read args (fun x => x = r)) (ha : args.length ≤ (B.penumbraref03_Read).ntmps := by exact of_decide_eq_true rfl) : Good P F.penumbraref03_Read args [] r [] := goodOf Go.Proofs.Try.func79 (by kernel_rfl) (by kernel_rfl) md ha h
theorem penumbraref03_abs {args : List V} {r : V} (h : ∀ C C2, CC C → CC2 C2 → wpF Ω ⟨tt, C, C2, md, 0, ro⟩ B.penumbraref03_abs args (fun x => x = r)) (ha : args.length ≤ (B.penumbraref03_abs).ntmps := by exact of_decide_eq_true rfl) : Good P F.penumbraref03_abs args [] r [] := goodOf Go.Proofs.Try.func80 (by kernel_rfl) (by kernel_rfl) md ha h
theorem rat_plus {args : List V} {r : V} (h : ∀ C C2, CC C → CC2 C2 → wpF Ω ⟨tt, C, C2, md, 0, ro⟩ B.rat_plus args (fun x => x = r)) (ha : args.length ≤ (B.rat_plus).ntmps := by exact of_decide_eq_true rfl) : Good P F.rat_plus args [] r [] := goodOf Go.Proofs.Try.func81 (by kernel_rfl) (by kernel_rfl) md ha h
theorem penumbraref03_Sign {args : List V} {r : V} (h : ∀ C C2, CC C → CC2 C2 → wpF Ω ⟨tt, C, C2, md, 0, ro⟩ B.penumbraref03_Sign args (fun x => x = r)) (ha : args.length ≤ (B.penumbraref03_Sign).ntmps := by exact of_decide_eq_true rfl) : Good P F.penumbraref03_Sign args [] r [] := goodOf Go.Proofs.Try.func82 (by kernel_rfl) (by kernel_rfl) md ha h
theorem penumbraref03_Over {args : List V} {r : V} (h : ∀ C C2, CC C → CC2 C2 → wpF Ω ⟨tt, C, C2, md, 0, ro⟩ B.penumbraref03_Over args (fun x => x = r)) (ha : args.length ≤ (B.penumbraref03_Over).ntmps := by exact of_decide_eq_true rfl) : Good P F.penumbraref03_Over args [] r [] := goodOf Go.Proofs.Try.func83 (by kernel_rfl) (by kernel_rfl) md ha h
theorem penumbraref03_Sub {args : List V} {r : V} (h : ∀ C C2, CC C → CC2 C2 → wpF Ω ⟨tt, C, C2, md, 0, ro⟩ B.penumbraref03_Sub args (fun x => x = r)) (ha : args.length ≤ (B.penumbraref03_Sub).ntmps := by exact of_decide_eq_true rfl) : Good P F.penumbraref03_Sub args [] r [] := goodOf Go.Proofs.Try.func84 (by kernel_rfl) (by kernel_rfl) md ha h
theorem penumbraref03_Cmp {args : List V} {r : V} (h : ∀ C C2, CC C → CC2 C2 → wpF Ω ⟨tt, C, C2, md, 0, ro⟩ B.penumbraref03_Cmp args (fun x => x = r)) (ha : args.length ≤ (B.penumbraref03_Cmp).ntmps := by exact of_decide_eq_true rfl) : Good P F.penumbraref03_Cmp args [] r [] := goodOf Go.Proofs.Try.func85 (by kernel_rfl) (by kernel_rfl) md ha h
theorem nat_trim {args : List V} {r : V} (h : ∀ C C2, CC C → CC2 C2 → wpF Ω ⟨tt, C, C2, md, 0, ro⟩ B.nat_trim args (fun x => x = r)) (ha : args.length ≤ (B.nat_trim).ntmps := by exact of_decide_eq_true rfl) : Good P F.nat_trim args [] r [] := goodOf Go.Proofs.Try.func86 (by kernel_rfl) (by kernel_rfl) md ha h
theorem math_bits_LeadingZeros32 {args : List V} {r : V} (h : ∀ C C2, CC C → CC2 C2 → wpF Ω ⟨tt, C, C2, md, 0, ro⟩ B.math_bits_LeadingZeros32 args (fun x => x = r)) (ha : args.length ≤ (B.math_bits_LeadingZeros32).ntmps := by exact of_decide_eq_true rfl) : Good P F.math_bits_LeadingZeros32 args [] r [] := goodOf Go.Proofs.Try.func87 (by kernel_rfl) (by kernel_rfl) md ha h
theorem vec_minor {args : List V} {r : V} (h : ∀ C C2, CC C → CC2 C2 → wpF Ω ⟨tt, C, C2, md, 0, ro⟩ B.vec_minor args (fun x => x = r)) (ha : args.length ≤ (B.vec_minor).ntmps := by exact of_decide_eq_true rfl) : Good P F.vec_minor args [] r [] := goodOf Go.Proofs.Try.func88 (by kernel_rfl) (by kernel_rfl) md ha h
theorem penumbraref03_Add {args : List V} {r : V} (h : ∀ C C2, CC C → CC2 C2 → wpF Ω ⟨tt, C, C2, md, 0, ro⟩ B.penumbraref03_Add args (fun x => x = r)) (ha : args.length ≤ (B.penumbraref03_Add).ntmps := by exact of_decide_eq_true rfl) : Good P F.penumbraref03_Add args [] r [] := goodOf Go.Proofs.Try.func89 (by kernel_rfl) (by kernel_rfl) md ha h
theorem penumbraref03_Mul {args : List V} {r : V} (h : ∀ C C2, CC C → CC2 C2 → wpF Ω ⟨tt, C, C2, md, 0, ro⟩ B.penumbraref03_Mul args (fun x => x = r)) (ha : args.length ≤ (B.penumbraref03_Mul).ntmps := by exact of_decide_eq_true rfl) : Good P F.penumbraref03_Mul args [] r [] := goodOf Go.Proofs.Try.func90 (by kernel_rfl) (by kernel_rfl) md ha h
theorem P_trace_walker_past {args : List V} {bs bs' : List Blk} {r : V} (h : ∀ C C2, CC C → CC2 C2 → wpF2 Ω ⟨tt, C, C2, md, bs.length, ro⟩ B.P_trace_walker_past args bs (fun x b => x = r ∧ b = bs')) (hb : bs.length ≤ 1000 := by decide) (ha : args.length ≤ (B.P_trace_walker_past).ntmps := by exact of_decide_eq_true rfl) : Good P F.P_trace_walker_past args bs r bs' := goodOf2 Go.Proofs.Try.func91 (by kernel_rfl) (by kernel_rfl) md hb ha h
theorem P_trace_walker_leaf {args : List V} {bs bs' : List Blk} {r : V} (h : ∀ C C2, CC C → CC2 C2 → wpF2 Ω ⟨tt, C, C2, md, bs.length, ro⟩ B.P_trace_walker_leaf args bs (fun x b => x = r ∧ b = bs')) (hb : bs.length ≤ 1000 := by decide) (ha : args.length ≤ (B.P_trace_walker_leaf).ntmps := by exact of_decide_eq_true rfl) : Good P F.P_trace_walker_leaf args bs r bs' := goodOf2 Go.Proofs.Try.func92 (by kernel_rfl) (by kernel_rfl) md hb ha h
theorem nat_Norm {args : List V} {r : V} (h : ∀ C C2, CC C → CC2 C2 → wpF Ω ⟨tt, C, C2, md, 0, ro⟩ B.nat_Norm args (fun x => x = r)) (ha : args.length ≤ (B.nat_Norm).ntmps := by exact of_decide_eq_true rfl) : Good P F.nat_Norm args [] r [] := goodOf Go.Proofs.Try.func93 (by kernel_rfl) (by kernel_rfl) md ha h
theorem root_Gcd {args : List V} {r : V} (h : ∀ C C2, CC C → CC2 C2 → wpF Ω ⟨tt, C, C2, md, 0, ro⟩ B.root_Gcd args (fun x => x = r)) (ha : args.length ≤ (B.root_Gcd).ntmps := by exact of_decide_eq_true rfl) : Good P F.root_Gcd args [] r [] := goodOf Go.Proofs.Try.func94 (by kernel_rfl) (by kernel_rfl) md ha h
theorem nat_DivMod {args : List V} {r : V} (h : ∀ C C2, CC C → CC2 C2 → wpF Ω ⟨tt, C, C2, md, 0, ro⟩ B.nat_DivMod args (fun x => x = r)) (ha : args.length ≤ (B.nat_DivMod).ntmps := by exact of_decide_eq_true rfl) : Good P F.nat_DivMod args [] r [] := goodOf Go.Proofs.Try.func95 (by kernel_rfl) (by kernel_rfl) md ha h
theorem nat_Of {args : List V} {r : V} (h : ∀ C C2, CC C → CC2 C2 → wpF Ω ⟨tt, C, C2, md, 0, ro⟩ B.nat_Of args (fun x => x = r)) (ha : args.length ≤ (B.nat_Of).ntmps := by exact of_decide_eq_true rfl) : Good P F.nat_Of args [] r [] := goodOf Go.Proofs.Try.func96 (by kernel_rfl) (by kernel_rfl) md ha h
theorem P_bvh_builder_part {args : List V} {bs bs' : List Blk} {r : V} (h : ∀ C C2, CC C → CC2 C2 → wpF2 Ω ⟨tt, C, C2, md, bs.length, ro⟩ B.P_bvh_builder_part args bs (fun x b => x = r ∧ b = bs')) (hb : bs.length ≤ 1000 := by decide) (ha : args.length ≤ (B.P_bvh_builder_part).ntmps := by exact of_decide_eq_true rfl) : Good P F.P_bvh_builder_part args bs r bs' := goodOf2 Go.Proofs.Try.func97 (by kernel_rfl) (by kernel_rfl) md hb ha h
theorem P_bvh_builder_widest {args : List V} {bs bs' : List Blk} {r : V} (h : ∀ C C2, CC C → CC2 C2 → wpF2 Ω ⟨tt, C, C2, md, bs.length, ro⟩ B.P_bvh_builder_widest args bs (fun x b => x = r ∧ b = bs')) (hb : bs.length ≤ 1000 := by decide) (ha : args.length ≤ (B.P_bvh_builder_widest).ntmps := by exact of_decide_eq_true rfl) : Good P F.P_bvh_builder_widest args bs r bs' := goodOf2 Go.Proofs.Try.func98 (by kernel_rfl) (by kernel_rfl) md hb ha h
theorem penumbraref01_Zero {args : List V} {r : V} (h : ∀ C C2, CC C → CC2 C2 → wpF Ω ⟨tt, C, C2, md, 0, ro⟩ B.penumbraref01_Zero args (fun x => x = r)) (ha : args.length ≤ (B.penumbraref01_Zero).ntmps := by exact of_decide_eq_true rfl) : Good P F.penumbraref01_Zero args [] r [] := goodOf Go.Proofs.Try.func99 (by kernel_rfl) (by kernel_rfl) md ha h
theorem penumbraref02_Gcd {args : List V} {r : V} (h : ∀ C C2, CC C → CC2 C2 → wpF Ω ⟨tt, C, C2, md, 0, ro⟩ B.penumbraref02_Gcd args (fun x => x = r)) (ha : args.length ≤ (B.penumbraref02_Gcd).ntmps := by exact of_decide_eq_true rfl) : Good P F.penumbraref02_Gcd args [] r [] := goodOf Go.Proofs.Try.func100 (by kernel_rfl) (by kernel_rfl) md ha h
theorem penumbraref01_DivMod {args : List V} {r : V} (h : ∀ C C2, CC C → CC2 C2 → wpF Ω ⟨tt, C, C2, md, 0, ro⟩ B.penumbraref01_DivMod args (fun x => x = r)) (ha : args.length ≤ (B.penumbraref01_DivMod).ntmps := by exact of_decide_eq_true rfl) : Good P F.penumbraref01_DivMod args [] r [] := goodOf Go.Proofs.Try.func101 (by kernel_rfl) (by kernel_rfl) md ha h
theorem penumbraref01_Of {args : List V} {r : V} (h : ∀ C C2, CC C → CC2 C2 → wpF Ω ⟨tt, C, C2, md, 0, ro⟩ B.penumbraref01_Of args (fun x => x = r)) (ha : args.length ≤ (B.penumbraref01_Of).ntmps := by exact of_decide_eq_true rfl) : Good P F.penumbraref01_Of args [] r [] := goodOf Go.Proofs.Try.func102 (by kernel_rfl) (by kernel_rfl) md ha h
theorem rat_whole {args : List V} {r : V} (h : ∀ C C2, CC C → CC2 C2 → wpF Ω ⟨tt, C, C2, md, 0, ro⟩ B.rat_whole args (fun x => x = r)) (ha : args.length ≤ (B.rat_whole).ntmps := by exact of_decide_eq_true rfl) : Good P F.rat_whole args [] r [] := goodOf Go.Proofs.Try.func103 (by kernel_rfl) (by kernel_rfl) md ha h
theorem nat_Add {args : List V} {r : V} (h : ∀ C C2, CC C → CC2 C2 → wpF Ω ⟨tt, C, C2, md, 0, ro⟩ B.nat_Add args (fun x => x = r)) (ha : args.length ≤ (B.nat_Add).ntmps := by exact of_decide_eq_true rfl) : Good P F.nat_Add args [] r [] := goodOf Go.Proofs.Try.func104 (by kernel_rfl) (by kernel_rfl) md ha h
theorem nat_Sub {args : List V} {r : V} (h : ∀ C C2, CC C → CC2 C2 → wpF Ω ⟨tt, C, C2, md, 0, ro⟩ B.nat_Sub args (fun x => x = r)) (ha : args.length ≤ (B.nat_Sub).ntmps := by exact of_decide_eq_true rfl) : Good P F.nat_Sub args [] r [] := goodOf Go.Proofs.Try.func105 (by kernel_rfl) (by kernel_rfl) md ha h
theorem penumbraref03_Div {args : List V} {r : V} (h : ∀ C C2, CC C → CC2 C2 → wpF Ω ⟨tt, C, C2, md, 0, ro⟩ B.penumbraref03_Div args (fun x => x = r)) (ha : args.length ≤ (B.penumbraref03_Div).ntmps := by exact of_decide_eq_true rfl) : Good P F.penumbraref03_Div args [] r [] := goodOf Go.Proofs.Try.func106 (by kernel_rfl) (by kernel_rfl) md ha h
theorem penumbraref03_Neg {args : List V} {r : V} (h : ∀ C C2, CC C → CC2 C2 → wpF Ω ⟨tt, C, C2, md, 0, ro⟩ B.penumbraref03_Neg args (fun x => x = r)) (ha : args.length ≤ (B.penumbraref03_Neg).ntmps := by exact of_decide_eq_true rfl) : Good P F.penumbraref03_Neg args [] r [] := goodOf Go.Proofs.Try.func107 (by kernel_rfl) (by kernel_rfl) md ha h
theorem math_bits_Len32 {args : List V} {r : V} (h : ∀ C C2, CC C → CC2 C2 → wpF Ω ⟨tt, C, C2, md, 0, ro⟩ B.math_bits_Len32 args (fun x => x = r)) (ha : args.length ≤ (B.math_bits_Len32).ntmps := by exact of_decide_eq_true rfl) : Good P F.math_bits_Len32 args [] r [] := goodOf Go.Proofs.Try.func108 (by kernel_rfl) (by kernel_rfl) md ha h
theorem penumbraref01_Mul {args : List V} {r : V} (h : ∀ C C2, CC C → CC2 C2 → wpF Ω ⟨tt, C, C2, md, 0, ro⟩ B.penumbraref01_Mul args (fun x => x = r)) (ha : args.length ≤ (B.penumbraref01_Mul).ntmps := by exact of_decide_eq_true rfl) : Good P F.penumbraref01_Mul args [] r [] := goodOf Go.Proofs.Try.func109 (by kernel_rfl) (by kernel_rfl) md ha h
theorem penumbraref01_Add {args : List V} {r : V} (h : ∀ C C2, CC C → CC2 C2 → wpF Ω ⟨tt, C, C2, md, 0, ro⟩ B.penumbraref01_Add args (fun x => x = r)) (ha : args.length ≤ (B.penumbraref01_Add).ntmps := by exact of_decide_eq_true rfl) : Good P F.penumbraref01_Add args [] r [] := goodOf Go.Proofs.Try.func110 (by kernel_rfl) (by kernel_rfl) md ha h
theorem penumbraref01_Cmp {args : List V} {r : V} (h : ∀ C C2, CC C → CC2 C2 → wpF Ω ⟨tt, C, C2, md, 0, ro⟩ B.penumbraref01_Cmp args (fun x => x = r)) (ha : args.length ≤ (B.penumbraref01_Cmp).ntmps := by exact of_decide_eq_true rfl) : Good P F.penumbraref01_Cmp args [] r [] := goodOf Go.Proofs.Try.func111 (by kernel_rfl) (by kernel_rfl) md ha h
theorem penumbraref01_Sub {args : List V} {r : V} (h : ∀ C C2, CC C → CC2 C2 → wpF Ω ⟨tt, C, C2, md, 0, ro⟩ B.penumbraref01_Sub args (fun x => x = r)) (ha : args.length ≤ (B.penumbraref01_Sub).ntmps := by exact of_decide_eq_true rfl) : Good P F.penumbraref01_Sub args [] r [] := goodOf Go.Proofs.Try.func112 (by kernel_rfl) (by kernel_rfl) md ha h
theorem slices_Clone_L_uint32_uint32 {args : List V} {r : V} (h : ∀ C C2, CC C → CC2 C2 → wpF Ω ⟨tt, C, C2, md, 0, ro⟩ B.slices_Clone_L_uint32_uint32 args (fun x => x = r)) (ha : args.length ≤ (B.slices_Clone_L_uint32_uint32).ntmps := by exact of_decide_eq_true rfl) : Good P F.slices_Clone_L_uint32_uint32 args [] r [] := goodOf Go.Proofs.Try.func113 (by kernel_rfl) (by kernel_rfl) md ha h
theorem nat_small {args : List V} {r : V} (h : ∀ C C2, CC C → CC2 C2 → wpF Ω ⟨tt, C, C2, md, 0, ro⟩ B.nat_small args (fun x => x = r)) (ha : args.length ≤ (B.nat_small).ntmps := by exact of_decide_eq_true rfl) : Good P F.nat_small args [] r [] := goodOf Go.Proofs.Try.func114 (by kernel_rfl) (by kernel_rfl) md ha h
theorem nat_long {args : List V} {r : V} (h : ∀ C C2, CC C → CC2 C2 → wpF Ω ⟨tt, C, C2, md, 0, ro⟩ B.nat_long args (fun x => x = r)) (ha : args.length ≤ (B.nat_long).ntmps := by exact of_decide_eq_true rfl) : Good P F.nat_long args [] r [] := goodOf Go.Proofs.Try.func115 (by kernel_rfl) (by kernel_rfl) md ha h
theorem P_bvh_builder_ahead {args : List V} {bs bs' : List Blk} {r : V} (h : ∀ C C2, CC C → CC2 C2 → wpF2 Ω ⟨tt, C, C2, md, bs.length, ro⟩ B.P_bvh_builder_ahead args bs (fun x b => x = r ∧ b = bs')) (hb : bs.length ≤ 1000 := by decide) (ha : args.length ≤ (B.P_bvh_builder_ahead).ntmps := by exact of_decide_eq_true rfl) : Good P F.P_bvh_builder_ahead args bs r bs' := goodOf2 Go.Proofs.Try.func116 (by kernel_rfl) (by kernel_rfl) md hb ha h
theorem bvh_axis {args : List V} {r : V} (h : ∀ C C2, CC C → CC2 C2 → wpF Ω ⟨tt, C, C2, md, 0, ro⟩ B.bvh_axis args (fun x => x = r)) (ha : args.length ≤ (B.bvh_axis).ntmps := by exact of_decide_eq_true rfl) : Good P F.bvh_axis args [] r [] := goodOf Go.Proofs.Try.func117 (by kernel_rfl) (by kernel_rfl) md ha h
theorem penumbraref01_Norm {args : List V} {r : V} (h : ∀ C C2, CC C → CC2 C2 → wpF Ω ⟨tt, C, C2, md, 0, ro⟩ B.penumbraref01_Norm args (fun x => x = r)) (ha : args.length ≤ (B.penumbraref01_Norm).ntmps := by exact of_decide_eq_true rfl) : Good P F.penumbraref01_Norm args [] r [] := goodOf Go.Proofs.Try.func118 (by kernel_rfl) (by kernel_rfl) md ha h
theorem penumbraref01_Double {args : List V} {r : V} (h : ∀ C C2, CC C → CC2 C2 → wpF Ω ⟨tt, C, C2, md, 0, ro⟩ B.penumbraref01_Double args (fun x => x = r)) (ha : args.length ≤ (B.penumbraref01_Double).ntmps := by exact of_decide_eq_true rfl) : Good P F.penumbraref01_Double args [] r [] := goodOf Go.Proofs.Try.func119 (by kernel_rfl) (by kernel_rfl) md ha h
theorem penumbraref01_at {args : List V} {r : V} (h : ∀ C C2, CC C → CC2 C2 → wpF Ω ⟨tt, C, C2, md, 0, ro⟩ B.penumbraref01_at args (fun x => x = r)) (ha : args.length ≤ (B.penumbraref01_at).ntmps := by exact of_decide_eq_true rfl) : Good P F.penumbraref01_at args [] r [] := goodOf Go.Proofs.Try.func120 (by kernel_rfl) (by kernel_rfl) md ha h
theorem penumbraref01_Half {args : List V} {r : V} (h : ∀ C C2, CC C → CC2 C2 → wpF Ω ⟨tt, C, C2, md, 0, ro⟩ B.penumbraref01_Half args (fun x => x = r)) (ha : args.length ≤ (B.penumbraref01_Half).ntmps := by exact of_decide_eq_true rfl) : Good P F.penumbraref01_Half args [] r [] := goodOf Go.Proofs.Try.func121 (by kernel_rfl) (by kernel_rfl) md ha h
theorem math_bits_Add32 {args : List V} {r : V} (h : ∀ C C2, CC C → CC2 C2 → wpF Ω ⟨tt, C, C2, md, 0, ro⟩ B.math_bits_Add32 args (fun x => x = r)) (ha : args.length ≤ (B.math_bits_Add32).ntmps := by exact of_decide_eq_true rfl) : Good P F.math_bits_Add32 args [] r [] := goodOf Go.Proofs.Try.func122 (by kernel_rfl) (by kernel_rfl) md ha h
theorem math_bits_Sub32 {args : List V} {r : V} (h : ∀ C C2, CC C → CC2 C2 → wpF Ω ⟨tt, C, C2, md, 0, ro⟩ B.math_bits_Sub32 args (fun x => x = r)) (ha : args.length ≤ (B.math_bits_Sub32).ntmps := by exact of_decide_eq_true rfl) : Good P F.math_bits_Sub32 args [] r [] := goodOf Go.Proofs.Try.func123 (by kernel_rfl) (by kernel_rfl) md ha h
theorem penumbraref01_limb {args : List V} {r : V} (h : ∀ C C2, CC C → CC2 C2 → wpF Ω ⟨tt, C, C2, md, 0, ro⟩ B.penumbraref01_limb args (fun x => x = r)) (ha : args.length ≤ (B.penumbraref01_limb).ntmps := by exact of_decide_eq_true rfl) : Good P F.penumbraref01_limb args [] r [] := goodOf Go.Proofs.Try.func124 (by kernel_rfl) (by kernel_rfl) md ha h
theorem math_bits_Div32 {args : List V} {r : V} (h : ∀ C C2, CC C → CC2 C2 → wpF Ω ⟨tt, C, C2, md, 0, ro⟩ B.math_bits_Div32 args (fun x => x = r)) (ha : args.length ≤ (B.math_bits_Div32).ntmps := by exact of_decide_eq_true rfl) : Good P F.math_bits_Div32 args [] r [] := goodOf Go.Proofs.Try.func125 (by kernel_rfl) (by kernel_rfl) md ha h
theorem nat_Shl {args : List V} {r : V} (h : ∀ C C2, CC C → CC2 C2 → wpF Ω ⟨tt, C, C2, md, 0, ro⟩ B.nat_Shl args (fun x => x = r)) (ha : args.length ≤ (B.nat_Shl).ntmps := by exact of_decide_eq_true rfl) : Good P F.nat_Shl args [] r [] := goodOf Go.Proofs.Try.func126 (by kernel_rfl) (by kernel_rfl) md ha h
theorem nat_less {args : List V} {bs bs' : List Blk} {r : V} (h : ∀ C C2, CC C → CC2 C2 → wpF2 Ω ⟨tt, C, C2, md, bs.length, ro⟩ B.nat_less args bs (fun x b => x = r ∧ b = bs')) (hb : bs.length ≤ 1000 := by decide) (ha : args.length ≤ (B.nat_less).ntmps := by exact of_decide_eq_true rfl) : Good P F.nat_less args bs r bs' := goodOf2 Go.Proofs.Try.func127 (by kernel_rfl) (by kernel_rfl) md hb ha h
theorem nat_back {args : List V} {bs bs' : List Blk} {r : V} (h : ∀ C C2, CC C → CC2 C2 → wpF2 Ω ⟨tt, C, C2, md, bs.length, ro⟩ B.nat_back args bs (fun x b => x = r ∧ b = bs')) (hb : bs.length ≤ 1000 := by decide) (ha : args.length ≤ (B.nat_back).ntmps := by exact of_decide_eq_true rfl) : Good P F.nat_back args bs r bs' := goodOf2 Go.Proofs.Try.func128 (by kernel_rfl) (by kernel_rfl) md hb ha h
theorem nat_shr {args : List V} {r : V} (h : ∀ C C2, CC C → CC2 C2 → wpF Ω ⟨tt, C, C2, md, 0, ro⟩ B.nat_shr args (fun x => x = r)) (ha : args.length ≤ (B.nat_shr).ntmps := by exact of_decide_eq_true rfl) : Good P F.nat_shr args [] r [] := goodOf Go.Proofs.Try.func129 (by kernel_rfl) (by kernel_rfl) md ha h
end G
/-! contracts by which a result is handed over -/
theorem G2.nat_trim (md : FuncId → Bool) {args : List V} {bs bs' : List Blk} {r : V} (h : ∀ C C2, CC C → CC2 C2 → wpF2 Ω ⟨tt, C, C2, md, bs.length, ro⟩ B.nat_trim args bs (fun x b => x = r ∧ b = bs')) (hb : bs.length ≤ 1000 := by decide) (ha : args.length ≤ (B.nat_trim).ntmps := by exact of_decide_eq_true rfl) : Good P F.nat_trim args bs r bs' := goodOf2 Go.Proofs.Try.func86 (by kernel_rfl) (by kernel_rfl) md hb ha h
theorem G1.nat_long (md : FuncId → Bool) {args : List V} {r : V} (h : ∀ C C2, CC C → CC2 C2 → wpF Ω ⟨tt, C, C2, md, 0, ro⟩ B.nat_long args (fun x => x = r)) (ha : args.length ≤ (B.nat_long).ntmps := by exact of_decide_eq_true rfl) : Good P F.nat_long args [] r [] := goodOf Go.Proofs.Try.func115 (by kernel_rfl) (by kernel_rfl) md ha h
theorem G2.nat_Shl (md : FuncId → Bool) {args : List V} {bs bs' : List Blk} {r : V} (h : ∀ C C2, CC C → CC2 C2 → wpF2 Ω ⟨tt, C, C2, md, bs.length, ro⟩ B.nat_Shl args bs (fun x b => x = r ∧ b = bs')) (hb : bs.length ≤ 1000 := by decide) (ha : args.length ≤ (B.nat_Shl).ntmps := by exact of_decide_eq_true rfl) : Good P F.nat_Shl args bs r bs' := goodOf2 Go.Proofs.Try.func126 (by kernel_rfl) (by kernel_rfl) md hb ha h
end Go.K.S
end
section
/-
  K, the words in which contracts are written: what a reckoning leaves as it stands.
-/
namespace Go.K
open Go

theorem LoopG.intro {m : Nat} {body : St → (X → St → Prop) → Prop} {s : St} {Q : X → St → Prop} {σ : Type} (ks ids : List Nat) (vs : σ → List V) (bs : σ → List Blk) (I : σ → Prop) (μ : σ → Nat) (x0 : σ) (olds : List Nat)
    (h0 : I x0) (hk : kept m ks ids olds s fun a b => a = vs x0 ∧ b = bs x0) (hr : ∀ x, I x → body (stOf ks (vs x) ids (bs x)) fun e s' => match e with
        | .normal => ∃ y olds, I y ∧ μ y < μ x ∧ kept m ks ids olds s' fun a b => a = vs y ∧ b = bs y
        | e => Q e s') : LoopG m body s Q := ⟨σ, ks, fun _ => ids, vs, bs, I, μ, ⟨[], x0, olds, h0, hk⟩, hr⟩
/-- the same, some nil slices being seen as rows -/
theorem LoopG.introB {m : Nat} {body : St → (X → St → Prop) → Prop} {s : St} {Q : X → St → Prop} {σ : Type} (bl : List Bth) (ks ids : List Nat) (vs : σ → List V) (bs : σ → List Blk) (I : σ → Prop) (μ : σ → Nat) (x0 : σ) (olds : List Nat)
    (h0 : I x0) (hk : keptB bl m ks ids olds s fun a b => a = vs x0 ∧ b = bs x0) (hr : ∀ x, I x → body (stOf ks (vs x) ids (bs x)) fun e s' => match e with
        | .normal => ∃ y olds, I y ∧ μ y < μ x ∧ kept m ks ids olds s' fun a b => a = vs y ∧ b = bs y
        | e => Q e s') : LoopG m body s Q := ⟨σ, ks, fun _ => ids, vs, bs, I, μ, ⟨bl, x0, olds, h0, hk⟩, hr⟩
/-- the same, where which blocks are kept depends on the state -/
theorem LoopG.intro2 {m : Nat} {body : St → (X → St → Prop) → Prop} {s : St} {Q : X → St → Prop} {σ : Type} (ks : List Nat) (ids : σ → List Nat) (vs : σ → List V) (bs : σ → List Blk) (I : σ → Prop) (μ : σ → Nat) (x0 : σ) (olds : List Nat)
    (h0 : I x0) (hk : kept m ks (ids x0) olds s fun a b => a = vs x0 ∧ b = bs x0) (hr : ∀ x, I x → body (stOf ks (vs x) (ids x) (bs x)) fun e s' => match e with
        | .normal => ∃ y olds, I y ∧ μ y < μ x ∧ kept m ks (ids y) olds s' fun a b => a = vs y ∧ b = bs y
        | e => Q e s') : LoopG m body s Q := ⟨σ, ks, ids, vs, bs, I, μ, ⟨[], x0, olds, h0, hk⟩, hr⟩
end Go.K
end
section
/-
  K, naturals as lists of limbs: plain Lean.
-/
namespace Go.K
open Go
set_option linter.unusedSimpArgs false

/-- all are limbs -/
def lim (l : List Nat) : Prop := ∀ x ∈ l, x < 4294967296

@[simp] theorem nv_nil : nv [] = 0 := rfl
@[simp] theorem nv_cons (x : Nat) (l : List Nat) : nv (x :: l) = x + 4294967296 * nv l := rfl
theorem lim_nil : lim [] := fun _ h => by cases h
theorem lim_cons {x : Nat} {l : List Nat} : lim (x :: l) ↔ x < 4294967296 ∧ lim l := by simp [lim]
theorem lim_append {a b : List Nat} : lim (a ++ b) ↔ lim a ∧ lim b := by
  simp only [lim, List.mem_append]
  exact ⟨fun h => ⟨fun x q => h x (.inl q), fun x q => h x (.inr q)⟩, fun h x q => q.elim (h.1 x) (h.2 x)⟩
theorem lim_take {l : List Nat} (h : lim l) (n : Nat) : lim (l.take n) := fun x q => h x (List.mem_of_mem_take q)
theorem lim_drop {l : List Nat} (h : lim l) (n : Nat) : lim (l.drop n) := fun x q => h x (List.mem_of_mem_drop q)
theorem lim_get {l : List Nat} (h : lim l) {k x : Nat} (hx : l[k]? = some x) : x < 4294967296 := h x (List.mem_of_getElem? hx)
theorem lim_getElem {l : List Nat} (h : lim l) {k : Nat} (hk : k < l.length) : l[k] < 4294967296 := h _ (List.getElem_mem hk)
theorem lim_set {l : List Nat} (h : lim l) (k : Nat) {x : Nat} (hx : x < 4294967296) : lim (l.set k x) := fun y q => by
  rcases List.mem_or_eq_of_mem_set q with q | q
  · exact h y q
  · omega
theorem lim_rep (n : Nat) : lim (List.replicate n 0) := fun x q => by rw [(List.mem_replicate.1 q).2]; omega

theorem nv_append (a b : List Nat) : nv (a ++ b) = nv a + 4294967296 ^ a.length * nv b := by
  induction a with
  | nil => simp
  | cons x a ih =>
    simp only [List.cons_append, nv_cons, List.length_cons, ih, Nat.mul_add, Nat.pow_succ]
    rw [Nat.add_assoc]
    congr 2
    rw [Nat.mul_comm (4294967296 ^ a.length) 4294967296, Nat.mul_assoc]
theorem nv_rep (n : Nat) : nv (List.replicate n 0) = 0 := by
  induction n with
  | zero => rfl
  | succ n ih => rw [List.replicate_succ, nv_cons, ih]
theorem nv_lt {l : List Nat} (h : lim l) : nv l < 4294967296 ^ l.length := by
  induction l with
  | nil => simp
  | cons x l ih =>
    rw [lim_cons] at h
    have := ih h.2
    rw [nv_cons, List.length_cons, Nat.pow_succ]
    omega
theorem nv_snoc (l : List Nat) (x : Nat) : nv (l ++ [x]) = nv l + 4294967296 ^ l.length * x := by rw [nv_append]; simp
theorem nv_take_succ {l : List Nat} {k x : Nat} (h : l[k]? = some x) : nv (l.take (k + 1)) = nv (l.take k) + 4294967296 ^ k * x := by
  have hk := (List.getElem?_eq_some_iff.1 h).1
  rw [List.take_add_one, h, Option.toList_some, nv_snoc, List.length_take, Nat.min_eq_left (by omega)]

theorem cn_zero : Ψ .cn 0 = [] := by rw [p_cn]; unfold cn; rfl
theorem cn_pos {n : Nat} (h : 0 < n) : Ψ .cn n = n % 4294967296 :: Ψ .cn (n / 4294967296) := by
  rw [p_cn, cn]; rw [dif_neg (by omega)]; rfl
theorem nv_cn (n : Nat) : nv (Ψ .cn n) = n := by
  induction n using Nat.strongRecOn with
  | ind n ih =>
    rcases Nat.eq_zero_or_pos n with h | h
    · subst h; rw [cn_zero]; rfl
    · rw [cn_pos h, nv_cons, ih _ (by omega)]; omega
theorem lim_cn (n : Nat) : lim (Ψ .cn n) := by
  induction n using Nat.strongRecOn with
  | ind n ih =>
    rcases Nat.eq_zero_or_pos n with h | h
    · subst h; rw [cn_zero]; exact lim_nil
    · rw [cn_pos h, lim_cons]; exact ⟨by omega, ih _ (by omega)⟩
theorem cn_eq_nil {n : Nat} : Ψ .cn n = [] ↔ n = 0 := by
  constructor
  · intro h; rw [← nv_cn n, h]; rfl
  · rintro rfl; exact cn_zero

/-- none at the end is 0 -/
def cano (l : List Nat) : Prop := ∀ x, l.getLast? = some x → x ≠ 0
theorem cano_nil : cano [] := fun x h => by cases h
theorem cano_cons {x y : Nat} {l : List Nat} : cano (x :: y :: l) ↔ cano (y :: l) := by simp [cano]
theorem cn_cano : ∀ (l : List Nat), lim l → cano l → Ψ .cn (nv l) = l
  | [], _, _ => cn_zero
  | [x], h, c => by
    have h0 := c x rfl
    rw [lim_cons] at h
    rw [nv_cons, nv_nil, cn_pos (by omega)]
    have : (x + 4294967296 * 0) / 4294967296 = 0 := by omega
    rw [this, cn_zero]
    congr 1; omega
  | x :: y :: l, h, c => by
    rw [cano_cons] at c
    rw [lim_cons] at h
    have ih := cn_cano (y :: l) h.2 c
    have hp : 0 < nv (y :: l) := by
      rcases Nat.eq_zero_or_pos (nv (y :: l)) with q | q
      · rw [q, cn_zero] at ih; cases ih
      · exact q
    generalize y :: l = r at *
    rw [nv_cons, cn_pos (by omega)]
    have h1 : (x + 4294967296 * nv r) % 4294967296 = x := by omega
    have h2 : (x + 4294967296 * nv r) / 4294967296 = nv r := by omega
    rw [h1, h2, ih]
theorem cano_cn (n : Nat) : cano (Ψ .cn n) := by
  induction n using Nat.strongRecOn with
  | ind n ih =>
    rcases Nat.eq_zero_or_pos n with h | h
    · subst h; rw [cn_zero]; exact cano_nil
    · rw [cn_pos h]
      have := ih (n / 4294967296) (by omega)
      cases hc : Ψ .cn (n / 4294967296) with
      | nil =>
        have := cn_eq_nil.1 hc
        intro x hx
        have hx' : n % 4294967296 = x := by simpa [wz] using hx
        omega
      | cons y l => rw [cano_cons, ← hc]; exact this
theorem cn_inj {m n : Nat} (h : Ψ .cn m = Ψ .cn n) : m = n := by rw [← nv_cn m, h, nv_cn]
theorem len_cn {n k : Nat} : (Ψ .cn n).length ≤ k ↔ n < 4294967296 ^ k := by
  induction k generalizing n with
  | zero => rw [Nat.pow_zero, Nat.le_zero, List.length_eq_zero_iff, cn_eq_nil]; omega
  | succ k ih =>
    rcases Nat.eq_zero_or_pos n with h | h
    · subst h
      rw [cn_zero]
      have : 0 < 4294967296 ^ (k + 1) := Nat.pow_pos (by omega)
      simp [this]
    · rw [cn_pos h, List.length_cons, Nat.add_le_add_iff_right, ih, Nat.pow_succ]
      exact Nat.div_lt_iff_lt_mul (by omega)
theorem len_cn_nv {l : List Nat} (h : lim l) : (Ψ .cn (nv l)).length ≤ l.length := len_cn.2 (nv_lt h)
/-- the last limb's place -/
theorem cn_ge {n k : Nat} (h : (Ψ .cn n).length = k + 1) : 4294967296 ^ k ≤ n := by
  have := (len_cn (n := n) (k := k)).2
  rcases Nat.lt_or_ge n (4294967296 ^ k) with q | q
  · have := this q; omega
  · exact q
theorem cn_lt {n : Nat} : n < 4294967296 ^ (Ψ .cn n).length := len_cn.1 (Nat.le_refl _)

/-! ### as data -/

theorem sget_lims (l : List Nat) (k : Nat) : Ω .sget (Ψ .lims l) k = (l[k]?).map fun (x : Nat) => (D.i .u32 (Ω .ci x) : D) := by simp [w_sget, p_lims, w_ci]
theorem ssub_lims (l : List Nat) (a n : Nat) : Ω .ssub (Ψ .lims l) a (Ω .nsub n a) = Ψ .lims ((l.drop a).take (n - a)) := by simp [w_ssub, p_lims, w_ci, w_nsub, List.map_drop, List.map_take]
theorem ssub_lims' (l : List Nat) (a n : Nat) : Ω .ssub (Ψ .lims l) a n = Ψ .lims ((l.drop a).take n) := by simp [w_ssub, p_lims, w_ci, List.map_drop, List.map_take]
theorem sset_lims (l : List Nat) (k x : Nat) : Ω .sset (Ψ .lims l) k (.i .u32 (Ω .ci x)) = Ψ .lims (l.set k x) := by simp [w_sset, p_lims, w_ci, List.map_set]
theorem scat_lims (a b : List Nat) : Ω .scat (Ψ .lims a) (Ψ .lims b) = Ψ .lims (a ++ b) := by simp [w_scat, p_lims, w_ci]
theorem srep_lims (n : Nat) : Ω .srep n (.i .u32 0) = Ψ .lims (List.replicate n 0) := by simp [w_srep, p_lims, w_ci, wz]
theorem lims_nil : ([] : List D) = Ψ .lims [] := rfl
theorem lims_cons (x : Nat) (l : List Nat) : D.i .u32 (Ω .ci x) :: Ψ .lims l = Ψ .lims (x :: l) := by simp [p_lims, w_ci]
theorem lims_cells (l : List Nat) : ∀ x ∈ Ψ .lims l, x.cells.length = 1 := by
  intro x h
  simp only [p_lims, w_ci, List.mem_map] at h
  obtain ⟨a, _, rfl⟩ := h
  rfl

/-! ### reckoning with kinds -/
theorem wrap64 {n : Int} (h : -9223372036854775808 ≤ n) (h' : n ≤ 9223372036854775807) : Ω .wrap .i64 n = n := by
  have e : Ω .wrap .i64 n = if decide (n % 18446744073709551616 ≥ 9223372036854775808) = true then n % 18446744073709551616 - 18446744073709551616 else n % 18446744073709551616 := rfl
  rw [e]
  by_cases c : n % 18446744073709551616 ≥ 9223372036854775808
  · rw [if_pos (by simpa using c)]; omega
  · rw [if_neg (by simpa using c)]; omega
theorem wrapu32 (n : Int) : Ω .wrap .u32 n = n % 4294967296 := by
  rw [w_wrap]
  simp only [IntKind.wrap, IntKind.bits, IntKind.signed, Bool.false_and]
  rfl
theorem wrapu64 (n : Int) : Ω .wrap .u64 n = n % 18446744073709551616 := by
  rw [w_wrap]
  simp only [IntKind.wrap, IntKind.bits, IntKind.signed, Bool.false_and]
  rfl
theorem wrapu32_nat (n : Nat) : Ω .wrap .u32 (n : Int) = ((n % 4294967296 : Nat) : Int) := by rw [wrapu32]; omega
theorem wrapu64_nat (n : Nat) : Ω .wrap .u64 (n : Int) = ((n % 18446744073709551616 : Nat) : Int) := by rw [wrapu64]; omega

/-! ### naturals as whole numbers -/
theorem ci_nonneg (a : Nat) : 0 ≤ Ω .ci a := by simp only [wz]; omega
theorem toNat_ci (n : Nat) : (Ω .ci n).toNat = n := rfl
theorem toNat_lit (n : Nat) : Int.toNat (OfNat.ofNat n) = n := rfl
theorem wrap_ci {n : Nat} (h : n ≤ 9223372036854775807) : Ω .wrap .i64 (Ω .ci n) = Ω .ci n := wrap64 (by simp only [wz]; omega) (by simp only [wz]; omega)
theorem wrap_pred {n : Nat} (h0 : 0 < n) (h : n ≤ 9223372036854775807) : Ω .wrap .i64 (Ω .ci n - 1) = Ω .ci (n - 1) := by
  rw [wrap64 (by simp only [wz]; omega) (by simp only [wz]; omega)]; simp only [wz]; omega
theorem wrap_succ {n : Nat} (h : n < 9223372036854775807) : Ω .wrap .i64 (Ω .ci n + 1) = Ω .ci (n + 1) := by
  rw [wrap64 (by simp only [wz]; omega) (by simp only [wz]; omega)]; simp only [wz]; omega
theorem wrap_add {a b : Nat} (h : a + b ≤ 9223372036854775807) : Ω .wrap .i64 (Ω .ci a + Ω .ci b) = Ω .ci (a + b) := by
  rw [wrap64 (by simp only [wz]; omega) (by simp only [wz]; omega)]; simp only [wz]; omega
theorem wrap_sub {a b : Nat} (hb : b ≤ a) (h : a ≤ 9223372036854775807) : Ω .wrap .i64 (Ω .ci a - Ω .ci b) = Ω .ci (a - b) := by
  rw [wrap64 (by simp only [wz]; omega) (by simp only [wz]; omega)]; simp only [wz]; omega

/-- an element of limbs -/
theorem idx_lims {l : List Nat} {k : Int} {sz : Nat} {R : D → Prop} (kn v : Nat) (hk : k = Ω .ci kn) (hv : l[kn]? = some v) (hsz : 1 = sz) (h : R (.i .u32 (Ω .ci v))) :
    Ω .ile 0 k ∧ ∃ x, Ω .sget (Ψ .lims l) (Ω .tn k) = some x ∧ x.cells.length = sz ∧ R x := by
  subst hk
  refine ⟨by simp only [wz]; omega, .i .u32 (Ω .ci v), ?_, hsz, h⟩
  rw [tn_ci, sget_lims, hv]; rfl
theorem cano_take {l : List Nat} {n v : Nat} (hv : l[n]? = some v) (h0 : v ≠ 0) : cano (l.take (n + 1)) := by
  intro x hx
  rw [List.take_add_one, hv, Option.toList_some, List.getLast?_concat] at hx
  cases hx; exact h0
end Go.K
namespace Go.K
open Go
/-- limbs, and not too many -/
structure N (l : List Nat) : Prop where
  lim : lim l
  len : l.length < 1099511627776
theorem N.cn {l : List Nat} (h : N l) : N (Ψ .cn (nv l)) := ⟨lim_cn _, Nat.lt_of_le_of_lt (len_cn_nv h.lim) h.len⟩
theorem N_nil : N [] := ⟨lim_nil, by simp⟩
theorem nv_split (l : List Nat) (k : Nat) (hk : k ≤ l.length) : nv l = nv (l.take k) + 4294967296 ^ k * nv (l.drop k) := by
  have := nv_append (l.take k) (l.drop k)
  rw [List.take_append_drop, List.length_take, Nat.min_eq_left hk] at this
  exact this
theorem nv_drop {l : List Nat} {k v : Nat} (h : l[k]? = some v) : nv (l.drop k) = v + 4294967296 * nv (l.drop (k + 1)) := by
  obtain ⟨hk, rfl⟩ := List.getElem?_eq_some_iff.1 h
  rw [List.drop_eq_getElem_cons hk, nv_cons]
/-- which one is less is told by the first limb in which they differ -/
theorem nv_lt_of {x y : List Nat} {k u v : Nat} (hx : lim x) (hu : x[k]? = some u) (hv : y[k]? = some v) (hd : x.drop (k + 1) = y.drop (k + 1)) (h : u < v) : nv x < nv y := by
  have kx := (List.getElem?_eq_some_iff.1 hu).1
  have ky := (List.getElem?_eq_some_iff.1 hv).1
  rw [nv_split x k (by omega), nv_split y k (by omega), nv_drop hu, nv_drop hv, hd]
  have h1 : nv (x.take k) < 4294967296 ^ k := by
    have := nv_lt (lim_take hx k)
    rw [List.length_take, Nat.min_eq_left (by omega)] at this
    exact this
  generalize 4294967296 ^ k = M at *
  generalize nv (y.drop (k + 1)) = d
  have h2 := Nat.mul_le_mul_left M (show u + 4294967296 * d + 1 ≤ v + 4294967296 * d by omega)
  rw [Nat.mul_add, Nat.mul_one] at h2
  omega
theorem cn_len_lt {m n : Nat} (h : (Ψ .cn m).length < (Ψ .cn n).length) : m < n := by
  rcases Nat.lt_or_ge m n with q | q
  · exact q
  · have h1 : n < 4294967296 ^ (Ψ .cn m).length := Nat.lt_of_le_of_lt q cn_lt
    have := len_cn.2 h1
    omega
end Go.K
namespace Go.K
open Go
theorem nv_take_succ' (l : List Nat) (k : Nat) : nv (l.take (k + 1)) = nv (l.take k) + 4294967296 ^ k * l.getD k 0 := by
  rcases Nat.lt_or_ge k l.length with h | h
  · rw [nv_take_succ (List.getElem?_eq_getElem h)]; simp [List.getD, h]
  · rw [List.take_of_length_le h, List.take_of_length_le (by omega)]; simp [List.getD, h]
theorem getD_lt {l : List Nat} (h : lim l) (k : Nat) : l.getD k 0 < 4294967296 := by
  rcases Nat.lt_or_ge k l.length with q | q
  · simp only [List.getD, List.getElem?_eq_getElem q, Option.getD_some]; exact lim_getElem h q
  · simp [List.getD, q]
theorem add_step {M zv c X Y x y : Nat} (h : zv + M * c = X + Y) : zv + M * ((x + y + c) % 4294967296) + M * 4294967296 * ((x + y + c) / 4294967296) = (X + M * x) + (Y + M * y) := by
  have h1 := Nat.mod_add_div (x + y + c) 4294967296
  have h2 : M * ((x + y + c) % 4294967296) + M * 4294967296 * ((x + y + c) / 4294967296) = M * (x + y + c) := by
    rw [Nat.mul_assoc, ← Nat.mul_add, h1]
  rw [Nat.add_assoc, h2, Nat.mul_add, Nat.mul_add]
  omega
end Go.K
namespace Go.K
open Go
theorem scat_snoc (z : List Nat) (v : Nat) : Ω .scat (Ψ .lims z) [.i .u32 (Ω .ci v)] = Ψ .lims (z ++ [v]) := by simp [w_scat, p_lims, w_ci]
theorem cells_one (k : IntKind) (n : Int) : ∀ u, u ∈ [D.i k n] → u.cells.length = 1 := fun u h => by
  rw [List.mem_singleton.1 h]; rfl
end Go.K
namespace Go.K
open Go
theorem cmpI_neg {m n : Nat} : Ψ .cmpI m n < 0 ↔ m < n := by simp only [p_cmpI]; split <;> (try split) <;> omega
theorem cmpI_pos {m n : Nat} : Ψ .cmpI m n > 0 ↔ n < m := by simp only [p_cmpI]; split <;> (try split) <;> omega
theorem cmpI_zero {m n : Nat} : Ψ .cmpI m n = 0 ↔ m = n := by simp only [p_cmpI]; split <;> (try split) <;> omega
theorem cmpI_nonneg {m n : Nat} : 0 ≤ Ψ .cmpI m n ↔ n ≤ m := by simp only [p_cmpI]; split <;> (try split) <;> omega
theorem sub_step {M zv c X Y x y d c' : Nat} (h : zv + Y = X + M * c) (hd : d + y + c = x + 4294967296 * c') : zv + M * d + (Y + M * y) + 0 = X + M * x + M * 4294967296 * c' := by
  have h2 : M * (d + y + c) = M * (x + 4294967296 * c') := by rw [hd]
  rw [Nat.mul_add, Nat.mul_add, Nat.mul_add, ← Nat.mul_assoc] at h2
  omega
end Go.K
namespace Go.K
open Go
theorem nv_set {l : List Nat} {k u : Nat} (h : l[k]? = some u) (v : Nat) : nv (l.set k v) + 4294967296 ^ k * u = nv l + 4294967296 ^ k * v := by
  have hk := (List.getElem?_eq_some_iff.1 h).1
  have e1 := nv_split (l.set k v) k (by simp; omega)
  have e2 := nv_split l k (by omega)
  have e3 : (l.set k v)[k]? = some v := by simp [hk]
  rw [List.take_set_of_le (Nat.le_refl k), nv_drop e3, List.drop_set_of_lt (by omega : k < k + 1)] at e1
  rw [nv_drop h] at e2
  rw [e1, e2, Nat.mul_add, Nat.mul_add]
  omega
/-- an element of the call's own limbs -/
theorem own_lims {z : List Nat} {K : Int} {sz : Nat} {p : Prop} {R : D → Prop} (kn v : Nat) (hk : K = Ω .ci kn) (hv : z[kn]? = some v) (hsz : sz ≤ 1) (hp : p) (h : R (.i .u32 (Ω .ci v))) :
    Ω .ile 0 K ∧ Ω .ilt K (Ω .ci z.length) ∧ ∃ x, Ω .sget (Ψ .lims z) (Ω .tn K) = some x ∧ sz ≤ x.cells.length ∧ p ∧ R x := by
  subst hk
  have := (List.getElem?_eq_some_iff.1 hv).1
  refine ⟨ci_nonneg _, (by simp only [wz]; omega), .i .u32 (Ω .ci v), ?_, hsz, hp, h⟩
  rw [tn_ci, sget_lims, hv]; rfl
end Go.K
namespace Go.K
open Go
theorem nv_set_drop {l : List Nat} {k : Nat} (hk : k < l.length) (v : Nat) : nv ((l.set k v).drop k) = v + 4294967296 * nv (l.drop (k + 1)) := by
  have e3 : (l.set k v)[k]? = some v := by simp [hk]
  rw [nv_drop e3, List.drop_set_of_lt (by omega : k < k + 1)]
theorem small_step {Q b r u X : Nat} (h : Q * b + r = X) : ((r * 4294967296 + u) / b + 4294967296 * Q) * b + (r * 4294967296 + u) % b = u + 4294967296 * X := by
  have h1 := Nat.div_add_mod (r * 4294967296 + u) b
  rw [← h, Nat.add_mul, Nat.mul_add, Nat.mul_assoc, Nat.mul_comm _ b]
  omega
theorem divmod_unique {Q b r X : Nat} (h : Q * b + r = X) (hr : r < b) : X / b = Q ∧ X % b = r := by
  subst h
  refine ⟨?_, ?_⟩
  · rw [Nat.mul_comm, Nat.mul_add_div (by omega), Nat.div_eq_of_lt hr, Nat.add_zero]
  · rw [Nat.mul_comm, Nat.mul_add_mod, Nat.mod_eq_of_lt hr]
end Go.K
end
section
/-
  Contracts of nat: trim, Norm, Of.
-/
namespace Go.K.S
open Go Go.K
set_option maxHeartbeats 1000000
set_option linter.unusedVariables false
set_option linter.unusedSimpArgs false

theorem trim_good (l : List Nat) (hl : lim l) (hb : l.length < 1099511627776) : Good P F.nat_trim [.d (dN Ψ l)] [] (.d (dN Ψ (Ψ .cn (nv l)))) [] := by
  refine G.nat_trim fun C C2 hC hC2 => ?_
  (generalize hΩ : Ω = ω, hΨ : Ψ = ψ; cbv <;> subst hΩ hΨ <;> try simp only [lits, true_and, not_u32, slen_nil, tn_ci, tn_zero, slen_lims, slen_dRs, slen_dVs, slen_dBs])
  refine LoopG.intro (σ := Nat) [0, 3] [] (fun n => [.d (dN Ψ l), .d (.i .i64 (Ω .ci n))]) (fun _ => []) (fun n => n ≤ l.length ∧ nv (l.take n) = nv l) (fun n => n) l.length [] ⟨Nat.le_refl _, by simp⟩ ⟨rfl, rfl, rfl⟩ ?_
  rintro n ⟨hn, he⟩
  (generalize hΩ : Ω = ω, hΨ : Ψ = ψ; cbv <;> subst hΩ hΨ <;> try simp only [lits, true_and, not_u32, slen_nil, tn_ci, tn_zero, slen_lims, slen_dRs, slen_dVs, slen_dBs])
  refine BrG.split (fun h => ?_) (fun h => ?_)
  · (generalize hΩ : Ω = ω, hΨ : Ψ = ψ; cbv <;> subst hΩ hΨ <;> try simp only [lits, true_and, not_u32, slen_nil, tn_ci, tn_zero, slen_lims, slen_dRs, slen_dVs, slen_dBs])
    simp [wz] at h
    obtain ⟨v, hv⟩ : ∃ v, l[n - 1]? = some v := ⟨_, List.getElem?_eq_getElem (by omega)⟩
    refine idx_lims (n - 1) v (wrap_pred h (by omega)) hv rfl ?_
    (generalize hΩ : Ω = ω, hΨ : Ψ = ψ; cbv <;> subst hΩ hΨ <;> try simp only [lits, true_and, not_u32, slen_nil, tn_ci, tn_zero, slen_lims, slen_dRs, slen_dVs, slen_dBs])
    have hs := nv_take_succ hv
    have hn1 : n - 1 + 1 = n := by omega
    rw [hn1] at hs
    refine BrG.split (fun h => ?_) (fun h => ?_)
    · (generalize hΩ : Ω = ω, hΨ : Ψ = ψ; cbv <;> subst hΩ hΨ <;> try simp only [lits, true_and, not_u32, slen_nil, tn_ci, tn_zero, slen_lims, slen_dRs, slen_dVs, slen_dBs])
      simp [wz] at h
      refine ⟨n - 1, [], ⟨by omega, by rw [h] at hs; omega⟩, by omega, rfl, ?_, rfl⟩
      rw [← wrap_pred (by omega) (by omega)]; rfl
    · (generalize hΩ : Ω = ω, hΨ : Ψ = ψ; cbv <;> subst hΩ hΨ <;> try simp only [lits, true_and, not_u32, slen_nil, tn_ci, tn_zero, slen_lims, slen_dRs, slen_dVs, slen_dBs])
      simp [wz] at h
      have hc := cn_cano _ (lim_take hl n) (by rw [← hn1]; exact cano_take hv h)
      rw [he] at hc
      refine ⟨by simp only [wz]; omega, Int.le_refl _, by simp only [wz]; omega, fun _ => rfl, lims_cells l, ?_⟩
      rw [ssub_lims, List.drop_zero, Nat.sub_zero, hc]
  · (generalize hΩ : Ω = ω, hΨ : Ψ = ψ; cbv <;> subst hΩ hΨ <;> try simp only [lits, true_and, not_u32, slen_nil, tn_ci, tn_zero, slen_lims, slen_dRs, slen_dVs, slen_dBs])
    simp [wz] at h
    subst h
    have h0 : nv l = 0 := by rw [← he]; rfl
    refine ⟨by simp only [wz]; omega, Int.le_refl _, by simp only [wz]; omega, fun _ => rfl, lims_cells l, ?_⟩
    rw [ssub_lims, h0, cn_zero]; rfl
end Go.K.S
end
section
/-
  K, plain laws of bits and of single limbs.
-/
namespace Go.K
open Go
set_option linter.unusedSimpArgs false

theorem wrapu32_ci (n : Nat) : Ω .wrap .u32 (Ω .ci n) = Ω .ci (n % 4294967296) := by simp only [wz]; exact wrapu32_nat n
theorem wrapu64_ci (n : Nat) : Ω .wrap .u64 (Ω .ci n) = Ω .ci (n % 18446744073709551616) := by simp only [wz]; exact wrapu64_nat n
theorem wrapu8_ci (n : Nat) : Ω .wrap .u8 (Ω .ci n) = Ω .ci (n % 256) := by
  have e : ∀ n : Int, Ω .wrap .u8 n = n % 256 := fun n => by
    rw [w_wrap]
    simp only [IntKind.wrap, IntKind.bits, IntKind.signed, Bool.false_and]; rfl
  rw [e]; simp only [wz]; omega
theorem ci_add (a b : Nat) : Ω .ci a + Ω .ci b = Ω .ci (a + b) := by simp only [wz]; omega
theorem ci_mul (a b : Nat) : Ω .ci a * Ω .ci b = Ω .ci (a * b) := by simp only [wz]; exact (Int.natCast_mul a b).symm
theorem ci_sub {a b : Nat} (h : b ≤ a) : Ω .ci a - Ω .ci b = Ω .ci (a - b) := by simp only [wz]; omega
theorem ci_inj {a b : Nat} : Ω .ci a = Ω .ci b ↔ a = b := by simp only [wz]; omega

theorem ishr_ci (k : IntKind) (n m : Nat) (h : m ≤ k.bits) : Ω .ishr k (Ω .ci n) (Ω .ci m) = Ω .ci (n / 2 ^ m) := by
  simp only [w_ishr, toNat_ci, Nat.min_eq_left h]
  simp only [wz]
  rw [Int.fdiv_eq_ediv_of_nonneg _ (by exact Int.le_of_lt (Int.pow_pos (by omega)))]
  simp
theorem ishr_lit (k : IntKind) (n m : Nat) (h : m ≤ k.bits) : Ω .ishr k (Ω .ci n) (OfNat.ofNat m) = Ω .ci (n / 2 ^ m) := ishr_ci k n m h
theorem ishl_lit (k : IntKind) (n m : Nat) (h : m ≤ k.bits) : Ω .ishl k (Ω .ci n) (OfNat.ofNat m) = Ω .wrap k (Ω .ci (n * 2 ^ m)) := by
  rw [w_wrap]
  have : Ω .ishl k (Ω .ci n) (OfNat.ofNat m) = Ω .ishl k (Ω .ci n) (Ω .ci m) := rfl
  rw [this]
  simp only [w_ishl, toNat_ci, Nat.min_eq_left h]
  simp only [wz]
  congr 1
theorem ishl_ci (k : IntKind) (n m : Nat) (h : m ≤ k.bits) : Ω .ishl k (Ω .ci n) (Ω .ci m) = Ω .wrap k (Ω .ci (n * 2 ^ m)) := ishl_lit k n m h

theorem ishr8 (n : Nat) : Ω .ishr .u32 (Ω .ci n) 8 = Ω .ci (n / 256) := ishr_lit _ _ _ (by decide)
theorem ishr16 (n : Nat) : Ω .ishr .u32 (Ω .ci n) 16 = Ω .ci (n / 65536) := ishr_lit _ _ _ (by decide)
theorem ishr31 (n : Nat) : Ω .ishr .u32 (Ω .ci n) 31 = Ω .ci (n / 2147483648) := ishr_lit _ _ _ (by decide)
theorem ishr32 (n : Nat) : Ω .ishr .u64 (Ω .ci n) 32 = Ω .ci (n / 4294967296) := ishr_lit _ _ _ (by decide)
/-! ### how many bits -/
def bl (n : Nat) : Nat := if n = 0 then 0 else Nat.log2 n + 1
theorem bl_zero : bl 0 = 0 := rfl
theorem bl_le {n k : Nat} : bl n ≤ k ↔ n < 2 ^ k := by
  unfold bl
  split
  · rename_i h
    subst h
    have : 0 < 2 ^ k := Nat.pow_pos (by omega)
    simp [this]
  · rename_i h
    rw [Nat.add_one_le_iff, Nat.log2_lt h]
theorem bl_lt (n : Nat) : n < 2 ^ bl n := bl_le.1 (Nat.le_refl _)
theorem bl_eq_zero {n : Nat} : bl n = 0 ↔ n = 0 := by
  unfold bl
  split <;> simp_all
theorem bl_div {n k : Nat} (h : 2 ^ k ≤ n) : bl n = k + bl (n / 2 ^ k) := by
  have e : ∀ j, bl n ≤ j ↔ k + bl (n / 2 ^ k) ≤ j := fun j => by
    rw [bl_le]
    rcases Nat.lt_or_ge j k with q | q
    · have : 2 ^ j ≤ 2 ^ k := Nat.pow_le_pow_right (by omega) (Nat.le_of_lt q)
      exact ⟨fun c => by omega, fun c => by omega⟩
    · obtain ⟨d, rfl⟩ := Nat.exists_eq_add_of_le q
      rw [Nat.add_le_add_iff_left, bl_le, Nat.div_lt_iff_lt_mul (Nat.pow_pos (by omega)), Nat.pow_add, Nat.mul_comm]
  have h1 := (e (bl n)).1 (Nat.le_refl _)
  have h2 := (e (k + bl (n / 2 ^ k))).2 (Nat.le_refl _)
  omega

theorem tab_idx {b : ByteArray} {k : Int} {R : UInt8 → Prop} (n : Nat) (hk : k = Ω .ci n) (hb : (List.range 256).all (fun n => b[n]? == some (UInt8.ofNat (bl n))) = true) (hn : n < 256) (h : R (UInt8.ofNat (bl n))) :
    0 ≤ k ∧ ∃ c, b[k.toNat]? = some c ∧ R c := by
  subst hk
  refine ⟨ci_nonneg _, _, ?_, h⟩
  rw [toNat_ci]
  have := List.all_eq_true.1 hb n (List.mem_range.2 hn)
  simpa using this
theorem bl8 {n : Nat} (h : n < 256) : (UInt8.ofNat (bl n)).toNat = bl n := by
  have : bl n ≤ 8 := bl_le.2 h
  simp; omega

/-- the bit that is lent -/
theorem sub32_bit {x y c : Nat} (hx : x < 4294967296) (hy : y < 4294967296) (hc : c ≤ 1) :
    ((4294967295 ^^^ x) &&& y ||| (4294967295 ^^^ (x ^^^ y)) &&& ((4294967296 + x - y - c) % 4294967296)) / 2147483648 = if x < y + c then 1 else 0 := by
  have lt : ∀ a b, a < 4294967296 → b < 4294967296 → a ^^^ b < 4294967296 := fun a b ha hb => Nat.xor_lt_two_pow (n := 32) ha hb
  generalize hz : (4294967295 ^^^ x) &&& y ||| (4294967295 ^^^ (x ^^^ y)) &&& ((4294967296 + x - y - c) % 4294967296) = z
  have hzl : z < 4294967296 := by
    rw [← hz]
    refine Nat.or_lt_two_pow (n := 32) ?_ ?_
    · exact Nat.lt_of_le_of_lt Nat.and_le_right hy
    · refine Nat.lt_of_le_of_lt Nat.and_le_right (Nat.mod_lt _ (by omega))
  have top : ∀ a, a < 4294967296 → (a.testBit 31 = true ↔ 2147483648 ≤ a) := fun a ha => by
    rw [Nat.testBit_eq_decide_div_mod_eq]
    simp only [decide_eq_true_eq]
    omega
  have hb : z.testBit 31 = ((!x.testBit 31 && y.testBit 31) || (!(x.testBit 31 != y.testBit 31) && ((4294967296 + x - y - c) % 4294967296).testBit 31)) := by
    rw [← hz, Nat.testBit_or, Nat.testBit_and, Nat.testBit_and, Nat.testBit_xor, Nat.testBit_xor, Nat.testBit_xor]
    have : (4294967295 : Nat).testBit 31 = true := by decide
    rw [this]
    cases x.testBit 31 <;> cases y.testBit 31 <;> simp
  have t1 := top x hx
  have t2 := top y hy
  have t3 := top _ (Nat.mod_lt (4294967296 + x - y - c) (show 0 < 4294967296 by omega))
  have t4 := top z hzl
  have hd : (4294967296 + x - y - c) % 4294967296 = if x < y + c then 4294967296 + x - y - c else x - y - c := by
    split <;> omega
  rw [hd] at t3 hb
  clear hd
  have e : z / 2147483648 = if z.testBit 31 then 1 else 0 := by
    by_cases q : z.testBit 31 = true
    · rw [if_pos q]; have := t4.1 q; omega
    · rw [if_neg q]; have := mt t4.2 q; omega
  rw [e, hb]
  generalize x.testBit 31 = bx at *
  generalize y.testBit 31 = bY at *
  generalize (if x < y + c then 4294967296 + x - y - c else x - y - c).testBit 31 = bd at *
  by_cases q : x < y + c
  · rw [if_pos q] at t3 ⊢
    cases bx <;> cases bY <;> cases bd <;> simp at t1 t2 t3 ⊢ <;> omega
  · rw [if_neg q] at t3 ⊢
    cases bx <;> cases bY <;> cases bd <;> simp at t1 t2 t3 ⊢ <;> omega

theorem iand_ci {a b : Nat} (ha : a < 4294967296) (hb : b < 4294967296) : Ω .iand .u32 (Ω .ci a) (Ω .ci b) = Ω .ci (a &&& b) := by
  have e : ∀ n, n < 4294967296 → (BitVec.ofInt 32 (Ω .ci n)).toNat = n := fun n hn => by
    simp only [wz, BitVec.ofInt_natCast, BitVec.toNat_ofNat]; omega
  have : Ω .iand .u32 (Ω .ci a) (Ω .ci b) = Ω .wrap .u32 (Ω .ci (BitVec.ofInt 32 (Ω .ci a) &&& BitVec.ofInt 32 (Ω .ci b)).toNat) := rfl
  rw [this, BitVec.toNat_and, e a ha, e b hb, wrapu32_ci, Nat.mod_eq_of_lt]
  exact Nat.lt_of_le_of_lt Nat.and_le_right hb
theorem ior_ci {a b : Nat} (ha : a < 4294967296) (hb : b < 4294967296) : Ω .ior .u32 (Ω .ci a) (Ω .ci b) = Ω .ci (a ||| b) := by
  have e : ∀ n, n < 4294967296 → (BitVec.ofInt 32 (Ω .ci n)).toNat = n := fun n hn => by
    simp only [wz, BitVec.ofInt_natCast, BitVec.toNat_ofNat]; omega
  have : Ω .ior .u32 (Ω .ci a) (Ω .ci b) = Ω .wrap .u32 (Ω .ci (BitVec.ofInt 32 (Ω .ci a) ||| BitVec.ofInt 32 (Ω .ci b)).toNat) := rfl
  rw [this, BitVec.toNat_or, e a ha, e b hb, wrapu32_ci, Nat.mod_eq_of_lt]
  exact Nat.or_lt_two_pow (n := 32) ha hb
theorem ixor_ci {a b : Nat} (ha : a < 4294967296) (hb : b < 4294967296) : Ω .ixor .u32 (Ω .ci a) (Ω .ci b) = Ω .ci (a ^^^ b) := by
  have e : ∀ n, n < 4294967296 → (BitVec.ofInt 32 (Ω .ci n)).toNat = n := fun n hn => by
    simp only [wz, BitVec.ofInt_natCast, BitVec.toNat_ofNat]; omega
  have : Ω .ixor .u32 (Ω .ci a) (Ω .ci b) = Ω .wrap .u32 (Ω .ci (BitVec.ofInt 32 (Ω .ci a) ^^^ BitVec.ofInt 32 (Ω .ci b)).toNat) := rfl
  rw [this, BitVec.toNat_xor, e a ha, e b hb, wrapu32_ci, Nat.mod_eq_of_lt]
  exact Nat.xor_lt_two_pow (n := 32) ha hb
theorem ior64_ci {a b : Nat} (ha : a < 18446744073709551616) (hb : b < 18446744073709551616) : Ω .ior .u64 (Ω .ci a) (Ω .ci b) = Ω .ci (a ||| b) := by
  have e : ∀ n, n < 18446744073709551616 → (BitVec.ofInt 64 (Ω .ci n)).toNat = n := fun n hn => by
    simp only [wz, BitVec.ofInt_natCast, BitVec.toNat_ofNat]; omega
  have : Ω .ior .u64 (Ω .ci a) (Ω .ci b) = Ω .wrap .u64 (Ω .ci (BitVec.ofInt 64 (Ω .ci a) ||| BitVec.ofInt 64 (Ω .ci b)).toNat) := rfl
  rw [this, BitVec.toNat_or, e a ha, e b hb, wrapu64_ci, Nat.mod_eq_of_lt]
  exact Nat.or_lt_two_pow (n := 64) ha hb
theorem sub32_diff {x y c : Nat} (hx : x < 4294967296) (hy : y < 4294967296) (hc : c ≤ 1) :
    Ω .wrap .u32 (Ω .wrap .u32 (Ω .ci x - Ω .ci y) - Ω .ci c) = Ω .ci ((4294967296 + x - y - c) % 4294967296) := by
  rw [wrapu32, wrapu32]; simp only [wz]; omega
end Go.K
namespace Go.K
open Go
theorem tdiv_ci (a b : Nat) : (Ω .ci a).tdiv (Ω .ci b) = Ω .ci (a / b) := by simp only [wz]; rw [Int.tdiv_eq_ediv_of_nonneg (by omega)]; exact (Int.natCast_ediv a b).symm
theorem tmod_ci (a b : Nat) : Ω .tmod (Ω .ci a) (Ω .ci b) = Ω .ci (a % b) := by simp only [wz, w_tmod]; rw [Int.tmod_eq_emod_of_nonneg (by omega)]; exact (Int.natCast_emod a b).symm
theorem ishl32 (n : Nat) : Ω .ishl .u64 (Ω .ci n) 32 = Ω .wrap .u64 (Ω .ci (n * 4294967296)) := ishl_lit _ _ _ (by decide)
theorem or_shl (h : Nat) {l : Nat} (hl : l < 4294967296) : h * 4294967296 ||| l = h * 4294967296 + l := by
  have := Nat.two_pow_add_eq_or_of_lt (i := 32) hl h
  rw [Nat.mul_comm h]
  exact this.symm
theorem or_shl' {r a c : Nat} (hc : c < 2 ^ r) : 2 ^ r * a ||| c = 2 ^ r * a + c := (Nat.two_pow_add_eq_or_of_lt hc a).symm
end Go.K
end
section
/-
  Contracts: math/bits, slices.Clone, nat.Norm, nat.Of, nat.Bits, nat.Cmp.
-/
namespace Go.K.S
open Go Go.K
set_option maxRecDepth 20000
set_option maxHeartbeats 1000000
set_option linter.unusedVariables false
set_option linter.unusedSimpArgs false

theorem clone_good (l : List Nat) (hb : l.length ≤ 1099511627776) : Good P F.slices_Clone_L_uint32_uint32 [.d (dN Ψ l)] [] (.d (dN Ψ l)) [] := by
  refine G.slices_Clone_L_uint32_uint32 fun C C2 hC hC2 => ?_
  refine nx ?_
  intro t ht
  cases t
  · refine nx ?_
    refine ⟨lims_cells l, ⟨by omega, by omega⟩, ?_⟩
    rfl
  · refine nx ?_
    rw [ht rfl]

theorem add32_good (x y c : Nat) (hx : x < 4294967296) (hy : y < 4294967296) (hc : c ≤ 1) :
    Good P F.math_bits_Add32 [.d (.i .u32 (Ω .ci x)), .d (.i .u32 (Ω .ci y)), .d (.i .u32 (Ω .ci c))] []
      (.tup [.d (.i .u32 (Ω .ci ((x + y + c) % 4294967296))), .d (.i .u32 (Ω .ci ((x + y + c) / 4294967296)))]) [] := by
  refine G.math_bits_Add32 fun C C2 hC hC2 => ?_
  refine nx ?_
  rw [wrapu64_ci, wrapu64_ci, wrapu64_ci, ci_add, wrapu64_ci, ci_add, wrapu64_ci, wrapu32_ci, ishr32, wrapu32_ci]
  have e : ((x % 18446744073709551616 + y % 18446744073709551616) % 18446744073709551616 + c % 18446744073709551616) % 18446744073709551616 = x + y + c := by omega
  rw [e, show (x + y + c) / 4294967296 % 4294967296 = (x + y + c) / 4294967296 by omega]

theorem sub32_good (x y c : Nat) (hx : x < 4294967296) (hy : y < 4294967296) (hc : c ≤ 1) :
    Good P F.math_bits_Sub32 [.d (.i .u32 (Ω .ci x)), .d (.i .u32 (Ω .ci y)), .d (.i .u32 (Ω .ci c))] []
      (.tup [.d (.i .u32 (Ω .ci ((4294967296 + x - y - c) % 4294967296))), .d (.i .u32 (Ω .ci (if x < y + c then 1 else 0)))]) [] := by
  refine G.math_bits_Sub32 fun C C2 hC hC2 => ?_
  refine nx ?_
  have h1 : (4294967296 + x - y - c) % 4294967296 < 4294967296 := Nat.mod_lt _ (by omega)
  have lt : ∀ a b, a < 4294967296 → b < 4294967296 → a ^^^ b < 4294967296 := fun a b ha hb => Nat.xor_lt_two_pow (n := 32) ha hb
  have e1 : Ω .ixor IntKind.u32 4294967295 (Ω .ci x) = Ω .ci (4294967295 ^^^ x) := ixor_ci (a := 4294967295) (by omega) hx
  have e2 : Ω .ixor IntKind.u32 4294967295 (Ω .ci (x ^^^ y)) = Ω .ci (4294967295 ^^^ (x ^^^ y)) := ixor_ci (a := 4294967295) (by omega) (lt _ _ hx hy)
  rw [sub32_diff hx hy hc, e1, ixor_ci hx hy, e2, iand_ci (lt _ _ (by omega) hx) hy, iand_ci (lt _ _ (by omega) (lt _ _ hx hy)) h1,
    ior_ci (Nat.lt_of_le_of_lt Nat.and_le_right hy) (Nat.lt_of_le_of_lt Nat.and_le_right h1), ishr31, sub32_bit hx hy hc]

theorem len32_good (x : Nat) (hx : x < 4294967296) : Good P F.math_bits_Len32 [.d (.i .u32 (Ω .ci x))] [] (.d (.i .i64 (Ω .ci (bl x)))) [] := by
  refine G.math_bits_Len32 fun C C2 hC hC2 => ?_
  have w : ∀ n : Nat, n ≤ 100 → Ω .wrap .i64 (Ω .ci n) = Ω .ci n := fun n h => wrap_ci (by omega)
  have b8 : ∀ n, n < 256 → bl n ≤ 8 := fun n h => bl_le.2 h
  refine nx ?_
  refine BrG.split (fun h => ?_) (fun h => ?_)
  · have h0 : 65536 ≤ x := by have := h; simp only [wz] at this; omega
    have hd : bl x = 16 + bl (x / 65536) := bl_div (n := x) (k := 16) h0
    refine nx ?_
    rw [ishr16]
    refine BrG.split (fun h => ?_) (fun h => ?_)
    · have h1 : 256 ≤ x / 65536 := by have := h; simp only [wz] at this; omega
      have hd2 : bl (x / 65536) = 8 + bl (x / 65536 / 256) := bl_div (n := x / 65536) (k := 8) h1
      have hl := b8 (x / 65536 / 256) (by omega)
      refine nx ?_
      rw [ishr8]
      refine tab_idx (x / 65536 / 256) (by rw [wrapu8_ci, Nat.mod_eq_of_lt (by omega)]) (by kernel_rfl) (by omega) ?_
      rw [bl8 (by omega)]
      refine nx ?_
      rw [w _ (by omega), show (24 : Int) = Ω .ci 24 from rfl, w _ (by omega), ci_add, w _ (by omega), hd, hd2, ← Nat.add_assoc]
    · have h1 : x / 65536 < 256 := by have := h; simp only [wz] at this; omega
      have hl := b8 (x / 65536) h1
      refine nx ?_
      refine tab_idx (x / 65536) (by rw [wrapu8_ci, Nat.mod_eq_of_lt (by omega)]) (by kernel_rfl) (by omega) ?_
      rw [bl8 (by omega)]
      refine nx ?_
      rw [w _ (by omega), show (16 : Int) = Ω .ci 16 from rfl, ci_add, w _ (by omega), hd]
  · have h0 : x < 65536 := by have := h; simp only [wz] at this; omega
    refine nx ?_
    refine BrG.split (fun h => ?_) (fun h => ?_)
    · have h1 : 256 ≤ x := by have := h; simp only [wz] at this; omega
      have hd2 : bl x = 8 + bl (x / 256) := bl_div (n := x) (k := 8) h1
      have hl := b8 (x / 256) (by omega)
      refine nx ?_
      rw [ishr8]
      refine tab_idx (x / 256) (by rw [wrapu8_ci, Nat.mod_eq_of_lt (by omega)]) (by kernel_rfl) (by omega) ?_
      rw [bl8 (by omega)]
      refine nx ?_
      rw [w _ (by omega), show (8 : Int) = Ω .ci 8 from rfl, w _ (by omega), ci_add, w _ (by omega), hd2]
    · have h1 : x < 256 := by have := h; simp only [wz] at this; omega
      have hl := b8 x h1
      refine nx ?_
      refine tab_idx x (by rw [wrapu8_ci, Nat.mod_eq_of_lt (by omega)]) (by kernel_rfl) (by omega) ?_
      rw [bl8 (by omega)]
      refine nx ?_
      rw [w _ (by omega), show (0 : Int) = Ω .ci 0 from rfl, ci_add, w _ (by omega), Nat.zero_add]

theorem lead32_good (x : Nat) (hx : x < 4294967296) : Good P F.math_bits_LeadingZeros32 [.d (.i .u32 (Ω .ci x))] [] (.d (.i .i64 (Ω .ci (32 - bl x)))) [] := by
  refine G.math_bits_LeadingZeros32 fun C C2 hC hC2 => ?_
  have hl : bl x ≤ 32 := bl_le.2 hx
  refine nx ?_
  refine ⟨_, hC _ _ _ (len32_good x hx), ?_⟩
  refine nx ?_
  rw [show (32 : Int) = Ω .ci 32 from rfl, wrap_sub hl (by omega)]
end Go.K.S
namespace Go.K.S
open Go Go.K
set_option maxRecDepth 20000
set_option maxHeartbeats 1000000
set_option linter.unusedVariables false
set_option linter.unusedSimpArgs false

theorem norm_good (l : List Nat) (h : N l) : Good P F.nat_Norm [.d (dN Ψ l)] [] (.d (dN Ψ (Ψ .cn (nv l)))) [] := by
  refine G.nat_Norm fun C C2 hC hC2 => ?_
  refine nx ?_
  refine ⟨_, hC _ _ _ (trim_good l h.lim h.len), ?_⟩
  refine nx ?_
  refine ⟨_, hC _ _ _ (clone_good _ (Nat.le_of_lt h.cn.len)), ?_⟩
  exact nx trivial

theorem of_good (n : Nat) (h : n < 18446744073709551616) : Good P F.nat_Of [.d (.i .u64 (Ω .ci n))] [] (.d (dN Ψ (Ψ .cn n))) [] := by
  refine G.nat_Of fun C C2 hC hC2 => ?_
  have hl : lim [n % 4294967296, n / 4294967296] := by simp [lim_cons, lim_nil]; omega
  have hv : nv [n % 4294967296, n / 4294967296] = n := by simp; omega
  have hg := norm_good [n % 4294967296, n / 4294967296] ⟨hl, by simp⟩
  rw [hv] at hg
  refine nx ?_
  rw [ishr32, wrapu32_ci, wrapu32_ci, show n / 4294967296 % 4294967296 = n / 4294967296 by omega]
  refine ⟨_, hC _ _ _ hg, ?_⟩
  exact nx trivial

theorem bits_good (l : List Nat) (h : N l) : Good P F.nat_Bits [.d (dN Ψ l)] [] (.d (.i .i64 (Ω .ci (bl (nv l))))) [] := by
  refine G.nat_Bits fun C C2 hC hC2 => ?_
  have hn := h.cn
  refine nx ?_
  refine ⟨_, hC _ _ _ (trim_good l h.lim h.len), ?_⟩
  have hc := cano_cn (nv l)
  have hv := nv_cn (nv l)
  generalize Ψ .cn (nv l) = z at *
  have hz := hn.len
  refine nx ?_
  refine BrG.split (fun h => ?_) (fun h => ?_)
  · have h0 : z.length = 0 := by simpa [wz] using h
    have : z = [] := List.eq_nil_of_length_eq_zero h0
    subst this
    refine nx ?_
    rw [← hv]
    rfl
  · have h0 : z.length ≠ 0 := by simpa [wz] using h
    obtain ⟨v, hg⟩ : ∃ v, z[z.length - 1]? = some v := ⟨_, List.getElem?_eq_getElem (by omega)⟩
    refine nx ?_
    refine idx_lims (z.length - 1) v (wrap_pred (by omega) (by omega)) hg rfl ?_
    refine nx ?_
    have hlt := lim_get hn.lim hg
    refine ⟨_, hC _ _ _ (lead32_good v hlt), ?_⟩
    refine nx ?_
    have hv0 : v ≠ 0 := hc v (by rw [List.getLast?_eq_getElem?]; exact hg)
    have hb : bl v ≤ 32 := bl_le.2 hlt
    rw [show (32 : Int) = Ω .ci 32 from rfl, ci_mul, wrap_ci (by omega), wrap_sub (by omega) (by omega)]
    have hs := nv_take_succ hg
    rw [show z.length - 1 + 1 = z.length by omega, List.take_length, hv] at hs
    have h1 : nv (z.take (z.length - 1)) < 4294967296 ^ (z.length - 1) := by
      have := nv_lt (lim_take hn.lim (z.length - 1))
      rwa [List.length_take, Nat.min_eq_left (by omega)] at this
    have hM : 4294967296 ^ (z.length - 1) = 2 ^ (32 * (z.length - 1)) := by rw [Nat.pow_mul]
    rw [hM] at hs h1
    have hdiv : nv l / 2 ^ (32 * (z.length - 1)) = v := by
      rw [hs, Nat.add_mul_div_left _ _ (Nat.pow_pos (by omega)), Nat.div_eq_of_lt h1, Nat.zero_add]
    have hge : 2 ^ (32 * (z.length - 1)) ≤ nv l := by
      rw [hs]
      have := Nat.mul_le_mul_left (2 ^ (32 * (z.length - 1))) (show 1 ≤ v by omega)
      omega
    rw [bl_div hge, hdiv]
    refine congrArg (fun n => V.d (D.i .i64 (Ω .ci n))) ?_
    omega
end Go.K.S
end
section
/-
  Contract of nat.Mul.
-/
namespace Go.K
theorem mul_step {M X zv zk c t b yk Yk Z0 : Nat} (ht : t = X * yk + zk + c) (h : zv + M * c = Z0 + b * X * Yk) {nz : Nat} (hz : nz + M * zk = zv + M * (t % 4294967296)) (hM : ∃ B', M = b * B') {B' : Nat} (hB : M = b * B') :
    nz + M * 4294967296 * (t / 4294967296) = Z0 + b * X * (Yk + B' * yk) := by
  have h1 := Nat.mod_add_div t 4294967296
  have h2 : M * (t % 4294967296) + M * 4294967296 * (t / 4294967296) = M * t := by
    rw [Nat.mul_assoc, ← Nat.mul_add, h1]
  have h3 : M * t = M * (X * yk) + M * zk + M * c := by rw [ht, Nat.mul_add, Nat.mul_add]
  have h4 : b * X * (Yk + B' * yk) = b * X * Yk + M * (X * yk) := by
    rw [Nat.mul_add, hB]
    congr 1
    rw [Nat.mul_assoc, Nat.mul_assoc]
    congr 1
    rw [← Nat.mul_assoc, ← Nat.mul_assoc, Nat.mul_comm X B']
  rw [h4]
  omega
theorem mul_fits {x y z c : Nat} (hx : x < 4294967296) (hy : y < 4294967296) (hz : z < 4294967296) (hc : c < 4294967296) : x * y + z + c < 18446744073709551616 := by
  have := Nat.mul_le_mul (show x ≤ 4294967295 by omega) (show y ≤ 4294967295 by omega)
  omega
end Go.K
namespace Go.K.S
open Go Go.K
set_option maxHeartbeats 1000000
set_option linter.unusedVariables false
set_option linter.unusedSimpArgs false

theorem mul_good (a b : List Nat) (ha : N a) (hb : N b) (hal : a.length < 274877906944) (hbl : b.length < 274877906944) : Good P F.nat_Mul [.d (dN Ψ a), .d (dN Ψ b)] [] (.d (dN Ψ (Ψ .cn (nv a * nv b)))) [] := by
  refine G.nat_Mul fun C C2 hC hC2 => ?_
  refine nx ?_
  refine ⟨_, hC _ _ _ (trim_good a ha.lim ha.len), ?_⟩
  refine nx ?_
  refine ⟨_, hC _ _ _ (trim_good b hb.lim hb.len), ?_⟩
  have hpn := ha.cn.lim
  have hqn := hb.cn.lim
  have hpl := Nat.lt_of_le_of_lt (len_cn_nv ha.lim) hal
  have hql := Nat.lt_of_le_of_lt (len_cn_nv hb.lim) hbl
  have hva := nv_cn (nv a)
  have hvb := nv_cn (nv b)
  generalize Ψ .cn (nv a) = p at *
  generalize Ψ .cn (nv b) = q at *
  refine nx ?_
  rw [wrap_add (by omega)]
  refine ⟨ci_nonneg _, Int.le_refl _, by simp only [wz]; omega, by simp only [wz]; omega, ?_⟩
  refine LoopG.intro (σ := Nat × List Nat) [1, 5, 22, 23, 24] [1050]
    (fun s => [.d (dN Ψ q), .own 1050 1, .d (dN Ψ p), .d (.i .i64 (Ω .ci p.length)), .d (.i .i64 (Ω .ci s.1))])
    (fun s => [.row true T.uint32 1 (Ψ .lims s.2)])
    (fun s => s.1 ≤ p.length ∧ s.2.length = p.length + q.length ∧ lim s.2 ∧ nv (s.2.take (s.1 + q.length)) = nv (p.take s.1) * nv q)
    (fun s => p.length - s.1) (0, List.replicate (p.length + q.length) 0) [1205] ⟨Nat.zero_le _, by simp, lim_rep _, by simp [nv_rep]⟩ ⟨rfl, rfl, ?_⟩ ?_
  · refine Eq.trans (b := [.row true T.uint32 1 _]) rfl ?_
    rw [← srep_lims]
    rfl
  rintro ⟨i, z⟩ ⟨hi, hzl, hzn, he⟩
  simp only at hi hzl hzn he
  refine nx ?_
  refine BrG.split (fun h => ?_) (fun h => ?_)
  · have hi2 : i < p.length := by have := h; simp only [wz] at this; omega
    obtain ⟨u, hu⟩ : ∃ u, p[i]? = some u := ⟨_, List.getElem?_eq_getElem hi2⟩
    have hul := lim_get hpn hu
    refine nx ?_
    refine idx_lims i u rfl hu rfl ?_
    refine nx ?_
    refine LoopG.intro (σ := Nat × List Nat × Nat) [1, 5, 6, 7, 8, 22, 23, 24, 29, 30, 31] [1051]
      (fun s => [.d (dN Ψ q), .own 1051 1, .d (.i .i64 (Ω .ci i)), .d (.i .u32 (Ω .ci u)), .d (.i .u64 (Ω .ci s.2.2)), .d (dN Ψ p), .d (.i .i64 (Ω .ci p.length)), .d (.i .i64 (Ω .ci i)), .d (dN Ψ q), .d (.i .i64 (Ω .ci q.length)), .d (.i .i64 (Ω .ci s.1))])
      (fun s => [.row true T.uint32 1 (Ψ .lims s.2.1)])
      (fun s => s.1 ≤ q.length ∧ s.2.1.length = p.length + q.length ∧ lim s.2.1 ∧ s.2.2 < 4294967296 ∧ nv (s.2.1.take (i + q.length)) + 4294967296 ^ (i + s.1) * s.2.2 = nv (z.take (i + q.length)) + 4294967296 ^ i * u * nv (q.take s.1))
      (fun s => q.length - s.1) (0, z, 0) [1050] ⟨Nat.zero_le _, hzl, hzn, by simp only; omega, by simp⟩ ⟨rfl, rfl, rfl⟩ ?_
    rintro ⟨k, w, c⟩ ⟨hk, hwl, hwn, hc, hw⟩
    simp only at hk hwl hwn hc hw
    refine nx ?_
    refine BrG.split (fun h => ?_) (fun h => ?_)
    · have hk2 : k < q.length := by have := h; simp only [wz] at this; omega
      obtain ⟨v, hv⟩ : ∃ v, q[k]? = some v := ⟨_, List.getElem?_eq_getElem hk2⟩
      obtain ⟨o, ho⟩ : ∃ o, w[i + k]? = some o := ⟨_, List.getElem?_eq_getElem (by omega)⟩
      have hvl := lim_get hqn hv
      have hol := lim_get hwn ho
      refine nx ?_
      refine idx_lims k v rfl hv rfl ?_
      refine nx ?_
      have hix : Ω .wrap .i64 (Ω .ci i + Ω .ci k) = Ω .ci (i + k) := wrap_add (by omega)
      refine own_lims (i + k) o hix ho ?_ ?_ ?_
      · exact Nat.le_refl _
      · exact rfl
      refine nx ?_
      rw [hix, wrapu64_ci, wrapu64_ci, wrapu64_ci, ci_mul, wrapu64_ci, ci_add, wrapu64_ci, ci_add, wrapu64_ci]
      have hfit := mul_fits hul hvl hol hc
      have ht : ((u % 18446744073709551616 * (v % 18446744073709551616) % 18446744073709551616 + o % 18446744073709551616) % 18446744073709551616 + c) % 18446744073709551616 = u * v + o + c := by
        rw [Nat.mod_eq_of_lt (show u < 18446744073709551616 by omega), Nat.mod_eq_of_lt (show v < 18446744073709551616 by omega)]
        omega
      rw [ht]
      refine ⟨ci_nonneg _, by simp only [wz]; omega, by simp only [wz]; omega, (k + 1, w.set (i + k) ((u * v + o + c) % 4294967296), (u * v + o + c) / 4294967296), [1051], ⟨hk2, by simp [hwl], lim_set hwn _ (by omega), by simp only; omega, ?_⟩, by simp only; omega, rfl, ?_, ?_⟩
      · simp only
        rw [List.take_set, nv_take_succ hv]
        have ho' : (w.take (i + q.length))[i + k]? = some o := by rw [List.getElem?_take, if_pos (by omega)]; exact ho
        have hz := nv_set ho' ((u * v + o + c) % 4294967296)
        have := mul_step (b := 4294967296 ^ i) (B' := 4294967296 ^ k) (M := 4294967296 ^ (i + k)) rfl hw hz ⟨_, Nat.pow_add _ _ _⟩ (Nat.pow_add _ _ _)
        rw [show i + (k + 1) = (i + k) + 1 by omega, Nat.pow_succ]
        exact this
      · refine Eq.trans (b := [.d (dN Ψ q), .own 1051 1, .d (.i .i64 (Ω .ci i)), .d (.i .u32 (Ω .ci u)), .d (.i .u64 _), .d (dN Ψ p), .d (.i .i64 (Ω .ci p.length)), .d (.i .i64 (Ω .ci i)), .d (dN Ψ q), .d (.i .i64 (Ω .ci q.length)), .d (.i .i64 _)]) rfl ?_
        rw [wrap_succ (by omega), ishr32]
      · refine Eq.trans (b := [.row true T.uint32 1 _]) rfl ?_
        rw [tn_ci, wrapu32_ci, sset_lims]
    · have hk2 : k = q.length := by have := h; simp only [wz] at this; omega
      subst hk2
      refine nx ?_
      rw [wrap_add (by omega)]
      rw [List.take_length] at hw
      obtain ⟨o, ho⟩ : ∃ o, w[i + q.length]? = some o := ⟨_, List.getElem?_eq_getElem (by omega)⟩
      refine ⟨ci_nonneg _, by simp only [wz]; omega, by simp only [wz]; omega, (i + 1, w.set (i + q.length) c), [1051], ⟨hi2, by simp [hwl], lim_set hwn _ hc, ?_⟩, by simp only; omega, rfl, ?_, ?_⟩
      · simp only
        have ho' : (w.set (i + q.length) c)[i + q.length]? = some c := by
          have := (List.getElem?_eq_some_iff.1 ho).1
          simp [this]
        rw [show i + 1 + q.length = (i + q.length) + 1 by omega, nv_take_succ ho', List.take_set_of_le (Nat.le_refl _), hw, he, nv_take_succ hu, Nat.add_mul]
      · refine Eq.trans (b := [.d (dN Ψ q), .own 1050 1, .d (dN Ψ p), .d (.i .i64 (Ω .ci p.length)), .d (.i .i64 _)]) rfl ?_
        rw [wrap_succ (by omega)]
      · refine Eq.trans (b := [.row true T.uint32 1 _]) rfl ?_
        rw [tn_ci, wrapu32_ci, Nat.mod_eq_of_lt hc, sset_lims]
  · have hi2 : i = p.length := by have := h; simp only [wz] at this; omega
    subst hi2
    rw [List.take_length, List.take_of_length_le (by omega)] at he
    have hg := trim_good z hzn (by omega)
    rw [he, hva, hvb] at hg
    refine nx ?_
    refine ⟨_, hC _ _ _ hg, ?_⟩
    exact nx trivial
end Go.K.S
end
section
/-
  Contracts: math/bits.Div32, nat.small.
-/
namespace Go.K.S
open Go Go.K
set_option maxHeartbeats 1000000
set_option linter.unusedVariables false
set_option linter.unusedSimpArgs false

theorem div32_good (hi lo y : Nat) (h : hi < y) (hy : y < 4294967296) (hl : lo < 4294967296) :
    Good P F.math_bits_Div32 [.d (.i .u32 (Ω .ci hi)), .d (.i .u32 (Ω .ci lo)), .d (.i .u32 (Ω .ci y))] []
      (.tup [.d (.i .u32 (Ω .ci ((hi * 4294967296 + lo) / y))), .d (.i .u32 (Ω .ci ((hi * 4294967296 + lo) % y)))]) [] := by
  refine G.math_bits_Div32 fun C C2 hC hC2 => ?_
  refine nx ?_
  refine BrG.split (fun g => ?_) (fun g => ?_)
  · refine nx ?_
    refine BrG.split (fun g => ?_) (fun g => ?_)
    · have := g; simp only [wz] at this; omega
    · refine nx ?_
      have e : Ω .ior .u64 (Ω .ishl .u64 (Ω .wrap .u64 (Ω .ci hi)) 32) (Ω .wrap .u64 (Ω .ci lo)) = Ω .ci (hi * 4294967296 + lo) := by
        rw [wrapu64_ci, wrapu64_ci, Nat.mod_eq_of_lt (by omega), Nat.mod_eq_of_lt (by omega), ishl32, wrapu64_ci, Nat.mod_eq_of_lt (by omega), ior64_ci (by omega) (by omega), or_shl _ hl]
      have ey : Ω .wrap .u64 (Ω .ci y) = Ω .ci y := by rw [wrapu64_ci, Nat.mod_eq_of_lt (by omega)]
      have hq : (hi * 4294967296 + lo) / y < 4294967296 := by
        rw [Nat.div_lt_iff_lt_mul (by omega)]
        have := Nat.mul_le_mul_right 4294967296 (show hi + 1 ≤ y by omega)
        rw [Nat.add_mul, Nat.mul_comm y] at this
        omega
      have hr : (hi * 4294967296 + lo) % y < y := Nat.mod_lt _ (by omega)
      rw [e, ey]
      refine ⟨by simp only [wz]; omega, ?_⟩
      rw [tdiv_ci, tmod_ci, wrapu64_ci, Nat.mod_eq_of_lt (by omega), wrapu32_ci, Nat.mod_eq_of_lt hq, wrapu32_ci, Nat.mod_eq_of_lt (a := (hi * 4294967296 + lo) % y) (by omega)]
      exact ⟨by simp only [wz]; omega, rfl⟩
  · have : Ω .ci y = 0 := by have := g; simp only [wz] at this ⊢; omega
    simp only [wz] at this; omega

theorem small_good (x : List Nat) (b : Nat) (hx : N x) (hb0 : 0 < b) (hb : b < 4294967296) : Good P F.nat_small [.d (dN Ψ x), .d (.i .u32 (Ω .ci b))] [] (.tup [.d (dN Ψ (Ψ .cn (nv x / b))), .d (dN Ψ (Ψ .cn (nv x % b)))]) [] := by
  refine G.nat_small fun C C2 hC hC2 => ?_
  have hxl := hx.len
  refine nx ?_
  refine ⟨ci_nonneg _, Int.le_refl _, by simp only [wz]; omega, by simp only [wz]; omega, ?_⟩
  refine LoopG.intro (σ := Nat × List Nat × Nat) [0, 1, 6, 7, 8] [1050]
    (fun s => [.d (dN Ψ x), .d (.i .u32 (Ω .ci b)), .own 1050 1, .d (.i .u32 (Ω .ci s.2.2)), .d (.i .i64 (Ω .wrap .i64 (Ω .ci s.1 - 1)))])
    (fun s => [.row true T.uint32 1 (Ψ .lims s.2.1)])
    (fun s => s.1 ≤ x.length ∧ s.2.1.length = x.length ∧ lim s.2.1 ∧ s.2.2 < b ∧ nv (s.2.1.drop s.1) * b + s.2.2 = nv (x.drop s.1))
    (fun s => s.1) (x.length, List.replicate x.length 0, 0) [1102] ⟨Nat.le_refl _, by simp, lim_rep _, hb0, by simp⟩ ⟨rfl, ?_, ?_⟩ ?_
  · refine Eq.trans (b := [.d (dN Ψ x), .d (.i .u32 (Ω .ci b)), .own 1050 1, .d (.i .u32 0), .d (.i .i64 _)]) rfl ?_
    rfl
  · refine Eq.trans (b := [.row true T.uint32 1 _]) rfl ?_
    rw [← srep_lims]
  rintro ⟨k, z, r⟩ ⟨hk, hzl, hzn, hr, he⟩
  simp only at hk hzl hzn hr he
  refine nx ?_
  refine BrG.split (fun h => ?_) (fun h => ?_)
  · rw [wrap64 (by simp only [wz]; omega) (by simp only [wz]; omega)] at h
    have hk0 : 0 < k := by have := h; simp only [wz] at this; omega
    have hk1 : Ω .wrap .i64 (Ω .ci k - 1) = Ω .ci (k - 1) := wrap_pred hk0 (by omega)
    obtain ⟨u, hu⟩ : ∃ u, x[k - 1]? = some u := ⟨_, List.getElem?_eq_getElem (by omega)⟩
    have hul := lim_get hx.lim hu
    refine nx ?_
    refine idx_lims (k - 1) u hk1 hu rfl ?_
    refine nx ?_
    refine ⟨_, hC _ _ _ (div32_good r u b hr hb hul), ?_⟩
    refine nx ?_
    have hqq : (r * 4294967296 + u) / b < 4294967296 := by
      rw [Nat.div_lt_iff_lt_mul (by omega)]
      have := Nat.mul_le_mul_right 4294967296 (show r + 1 ≤ b by omega)
      rw [Nat.add_mul, Nat.mul_comm b] at this
      omega
    rw [hk1]
    refine ⟨ci_nonneg _, by simp only [wz]; omega, by simp only [wz]; omega, (k - 1, z.set (k - 1) ((r * 4294967296 + u) / b), (r * 4294967296 + u) % b), [1050], ⟨by simp only; omega, by simp [hzl], lim_set hzn _ hqq, Nat.mod_lt _ hb0, ?_⟩, by simp only; omega, rfl, ?_, ?_⟩
    · simp only
      rw [nv_set_drop (by omega), nv_drop hu, show k - 1 + 1 = k by omega]
      exact small_step he
    · refine Eq.trans (b := [.d (dN Ψ x), .d (.i .u32 (Ω .ci b)), .own 1050 1, .d (.i .u32 (Ω .ci _)), .d (.i .i64 _)]) rfl ?_
      rfl
    · refine Eq.trans (b := [.row true T.uint32 1 _]) rfl ?_
      rw [tn_ci, sset_lims]
  · rw [wrap64 (by simp only [wz]; omega) (by simp only [wz]; omega)] at h
    have hk0 : k = 0 := by have := h; simp only [wz] at this; omega
    subst hk0
    rw [List.drop_zero, List.drop_zero] at he
    obtain ⟨e1, e2⟩ := divmod_unique he hr
    have g1 := trim_good z hzn (by omega)
    have g2 := trim_good [r] (by simp [lim_cons, lim_nil]; omega) (by simp)
    rw [← e1] at g1
    rw [show nv [r] = nv x % b by simp; exact e2.symm] at g2
    refine nx ?_
    refine ⟨_, hC _ _ _ g1, ?_⟩
    refine nx ?_
    refine ⟨_, hC _ _ _ g2, ?_⟩
    exact nx trivial
end Go.K.S
end
section
/-
  Contracts: nat.Shl, nat.shr.
-/
namespace Go.K
open Go
theorem tmod32 (n : Nat) : Ω .tmod (Ω .ci n) 32 = Ω .ci (n % 32) := tmod_ci n 32
theorem tdiv32 (n : Nat) : (Ω .ci n).tdiv 32 = Ω .ci (n / 32) := tdiv_ci n 32
/-- a limb that is shifted, and what it hands on -/
theorem shl_limb {t r c : Nat} (ht : t < 4294967296) (hr : r < 32) (hc : c < 2 ^ r) :
    ((t * 2 ^ r) % 4294967296 ||| c) + 4294967296 * (t / 2 ^ (32 - r)) = t * 2 ^ r + c ∧ ((t * 2 ^ r) % 4294967296 ||| c) < 4294967296 ∧ t / 2 ^ (32 - r) < 2 ^ r := by
  have hB : 4294967296 = 2 ^ r * 2 ^ (32 - r) := by rw [← Nat.pow_add, show r + (32 - r) = 32 by omega]
  have h2 : (t * 2 ^ r) % 4294967296 = 2 ^ r * (t % 2 ^ (32 - r)) := by rw [hB, Nat.mul_comm t, Nat.mul_mod_mul_left]
  have hd := Nat.mod_add_div t (2 ^ (32 - r))
  have hm : t % 2 ^ (32 - r) < 2 ^ (32 - r) := Nat.mod_lt _ (Nat.pow_pos (by omega))
  rw [h2, or_shl' hc]
  refine ⟨?_, ?_, ?_⟩
  · have : t * 2 ^ r = 2 ^ r * (t % 2 ^ (32 - r)) + 4294967296 * (t / 2 ^ (32 - r)) := by
      rw [hB, Nat.mul_assoc, ← Nat.mul_add, hd, Nat.mul_comm]
    rw [this]; omega
  · have := Nat.mul_le_mul_left (2 ^ r) (show t % 2 ^ (32 - r) + 1 ≤ 2 ^ (32 - r) by omega)
    rw [Nat.mul_add, ← hB] at this
    omega
  · rw [Nat.div_lt_iff_lt_mul (Nat.pow_pos (by omega)), ← hB]; exact ht
theorem shl_step {zv W M c X t s c' R : Nat} (h : zv + W * M * c = X * (W * R)) (hs : s + 4294967296 * c' = t * R + c) : zv + W * M * s + W * M * 4294967296 * c' = (X + M * t) * (W * R) := by
  have h2 : W * M * (s + 4294967296 * c') = W * M * (t * R + c) := by rw [hs]
  rw [Nat.mul_add, Nat.mul_add, ← Nat.mul_assoc] at h2
  have h3 : (X + M * t) * (W * R) = X * (W * R) + W * M * (t * R) := by
    rw [Nat.add_mul]; congr 1
    rw [Nat.mul_comm M t]; ac_rfl
  rw [h3]
  omega
end Go.K
namespace Go.K.S
open Go Go.K
set_option maxHeartbeats 1000000
set_option linter.unusedVariables false
set_option linter.unusedSimpArgs false

theorem shl_good (x : List Nat) (n : Nat) (hx : N x) (hxs : x.length < 549755813888) (hn : n ≤ 65536) : Good P F.nat_Shl [.d (dN Ψ x), .d (.i .i64 (Ω .ci n))] [] (.tup [.d (dN Ψ (Ψ .cn (nv x * 2 ^ n))), .d (.b true)]) [] := by
  refine G.nat_Shl fun C C2 hC hC2 => ?_
  have hr : n % 32 < 32 := Nat.mod_lt _ (by omega)
  have hpow : 2 ^ n = 4294967296 ^ (n / 32) * 2 ^ (n % 32) := by
    rw [show 4294967296 = 2 ^ 32 from rfl, ← Nat.pow_mul, ← Nat.pow_add]
    congr 1; omega
  refine nx ?_
  refine BrG.split (fun g => ?_) (fun g => ?_)
  · have := g; simp only [wz] at this; omega
  refine nx ?_
  refine BrG.split (fun g => ?_) (fun g => ?_)
  · have := g; simp only [wz] at this; omega
  refine nx ?_
  rw [tdiv32, wrap_ci (by omega)]
  refine ⟨ci_nonneg _, Int.le_refl _, by simp only [wz]; omega, by simp only [wz]; omega, ?_⟩
  refine ⟨_, hC _ _ _ (trim_good x hx.lim hx.len), ?_⟩
  have hpn := hx.cn.lim
  have hpl := Nat.lt_of_le_of_lt (len_cn_nv hx.lim) hxs
  have hv := nv_cn (nv x)
  generalize Ψ .cn (nv x) = p at *
  refine nx ?_
  refine LoopG.intro (σ := Nat × List Nat × Nat) [1, 6, 7, 20, 21, 22] [1050]
    (fun s => [.d (.i .i64 (Ω .ci n)), .own 1050 1, .d (.i .u32 (Ω .ci s.2.2)), .d (dN Ψ p), .d (.i .i64 (Ω .ci p.length)), .d (.i .i64 (Ω .ci s.1))])
    (fun s => [.row true T.uint32 1 (Ψ .lims s.2.1)])
    (fun s => s.1 ≤ p.length ∧ s.2.1.length = n / 32 + s.1 ∧ lim s.2.1 ∧ s.2.2 < 2 ^ (n % 32) ∧ nv s.2.1 + 4294967296 ^ (n / 32) * 4294967296 ^ s.1 * s.2.2 = nv (p.take s.1) * (4294967296 ^ (n / 32) * 2 ^ (n % 32)))
    (fun s => p.length - s.1) (0, List.replicate (n / 32) 0, 0) [1302] ⟨Nat.zero_le _, by simp, lim_rep _, Nat.pow_pos (by omega), by simp [nv_rep]⟩ ⟨rfl, rfl, ?_⟩ ?_
  · refine Eq.trans (b := [.row true T.uint32 1 _]) rfl ?_
    rw [← srep_lims]
  rintro ⟨i, z, c⟩ ⟨hi, hzl, hzn, hc, he⟩
  simp only at hi hzl hzn hc he
  refine nx ?_
  refine BrG.split (fun h => ?_) (fun h => ?_)
  · have hi2 : i < p.length := by have := h; simp only [wz] at this; omega
    obtain ⟨t, ht⟩ : ∃ t, p[i]? = some t := ⟨_, List.getElem?_eq_getElem hi2⟩
    have htl := lim_get hpn ht
    refine nx ?_
    refine idx_lims i t rfl ht rfl ?_
    refine nx ?_
    rw [tmod32]
    obtain ⟨q1, q2, q3⟩ := shl_limb htl hr hc
    have hcl : 2 ^ (n % 32) ≤ 4294967296 := Nat.pow_le_pow_right (n := 2) (by omega) (show n % 32 ≤ 32 by omega)
    have e1 : Ω .ior .u32 (Ω .ishl .u32 (Ω .ci t) (Ω .ci (n % 32))) (Ω .ci c) = Ω .ci ((t * 2 ^ (n % 32)) % 4294967296 ||| c) := by
      rw [ishl_ci _ _ _ (by show n % 32 ≤ 32; omega), wrapu32_ci, ior_ci (Nat.mod_lt _ (by omega)) (by omega)]
    have e2 : Ω .wrap .i64 (32 - Ω .ci (n % 32)) = Ω .ci (32 - n % 32) := wrap_sub (a := 32) (by omega) (by omega)
    have e3 : Ω .wrap .u32 (Ω .ishr .u64 (Ω .wrap .u64 (Ω .ci t)) (Ω .ci (32 - n % 32))) = Ω .ci (t / 2 ^ (32 - n % 32)) := by
      rw [wrapu64_ci, Nat.mod_eq_of_lt (by omega), ishr_ci _ _ _ (by show 32 - n % 32 ≤ 64; omega), wrapu32_ci, Nat.mod_eq_of_lt]
      exact Nat.lt_of_lt_of_le q3 hcl
    rw [e1, e2]
    refine ⟨ci_nonneg _, cells_one _ _, (by simp only [wz]; omega), ci_nonneg _, (i + 1, z ++ [(t * 2 ^ (n % 32)) % 4294967296 ||| c], t / 2 ^ (32 - n % 32)), [1808], ⟨hi2, by simp [hzl]; omega, lim_append.2 ⟨hzn, by simp [lim_cons, lim_nil]; exact q2⟩, q3, ?_⟩, by simp only; omega, rfl, ?_, ?_⟩
    · simp only
      rw [nv_snoc, hzl, nv_take_succ ht, Nat.pow_succ, Nat.pow_add, ← Nat.mul_assoc]
      exact shl_step he q1
    · refine Eq.trans (b := [.d (.i .i64 (Ω .ci n)), .own 1050 1, .d (.i .u32 _), .d (dN Ψ p), .d (.i .i64 (Ω .ci p.length)), .d (.i .i64 _)]) rfl ?_
      rw [wrap_succ (by omega), e3]
    · refine Eq.trans (b := [.row true T.uint32 1 _]) rfl ?_
      rw [scat_snoc]
  · have hi2 : i = p.length := by have := h; simp only [wz] at this; omega
    subst hi2
    have hcl : 2 ^ (n % 32) ≤ 4294967296 := Nat.pow_le_pow_right (n := 2) (by omega) (show n % 32 ≤ 32 by omega)
    rw [List.take_length, ← hpow, hv, ← Nat.pow_add, ← hzl, ← nv_snoc] at he
    have hg := trim_good (z ++ [c]) (lim_append.2 ⟨hzn, by simp [lim_cons, lim_nil]; omega⟩) (by simp; omega)
    rw [he] at hg
    refine nx ?_
    refine ⟨cells_one _ _, (by simp only [wz]; omega), ?_⟩
    rw [scat_snoc]
    refine nx ?_
    refine ⟨_, hC _ _ _ hg, ?_⟩
    exact nx trivial
end Go.K.S
end
section
/-
  Contract: nat.shr.
-/
namespace Go.K
open Go
theorem shr_limb {x : List Nat} {i u : Nat} (hx : lim x) (hu : x[i]? = some u) {n : Nat} (hn : n < 32) :
    (x.getD (i + 1) 0 * 4294967296 + u) / 2 ^ n % 4294967296 = nv x / 2 ^ n / 4294967296 ^ i % 4294967296 := by
  have hi := (List.getElem?_eq_some_iff.1 hu).1
  have h1 : nv x / 4294967296 ^ i = nv (x.drop i) := by
    rw [nv_split x i (by omega), Nat.add_mul_div_left _ _ (Nat.pow_pos (by omega)), Nat.div_eq_of_lt, Nat.zero_add]
    have := nv_lt (lim_take hx i)
    rwa [List.length_take, Nat.min_eq_left (by omega)] at this
  have h2 : nv (x.drop (i + 1)) = x.getD (i + 1) 0 + 4294967296 * nv (x.drop (i + 2)) := by
    rcases Nat.lt_or_ge (i + 1) x.length with q | q
    · have : x[i + 1]? = some x[i + 1] := List.getElem?_eq_getElem q
      rw [nv_drop this]; simp [List.getD, q]
    · rw [List.drop_of_length_le q, List.drop_of_length_le (by omega)]; simp [List.getD, q]
  rw [Nat.div_div_eq_div_mul, Nat.mul_comm (2 ^ n), ← Nat.div_div_eq_div_mul, h1, nv_drop hu, h2]
  generalize x.getD (i + 1) 0 = v
  generalize nv (x.drop (i + 2)) = H
  have e : u + 4294967296 * (v + 4294967296 * H) = (v * 4294967296 + u) + 2 ^ n * (4294967296 * (2 ^ (32 - n) * H)) := by
    have : 2 ^ n * (4294967296 * (2 ^ (32 - n) * H)) = 4294967296 * (4294967296 * H) := by
      rw [Nat.mul_left_comm, ← Nat.mul_assoc (2 ^ n), ← Nat.pow_add, show n + (32 - n) = 32 by omega]
    rw [this]; omega
  rw [e, Nat.add_mul_div_left _ _ (Nat.pow_pos (by omega)), Nat.add_mul_mod_self_left]
end Go.K
namespace Go.K.S
open Go Go.K
set_option maxHeartbeats 1000000
set_option linter.unusedVariables false
set_option linter.unusedSimpArgs false

theorem shr_good (x : List Nat) (n : Nat) (hx : N x) (hn : n < 32) : Good P F.nat_shr [.d (dN Ψ x), .d (.i .i64 (Ω .ci n))] [] (.d (dN Ψ (Ψ .cn (nv x / 2 ^ n)))) [] := by
  refine G.nat_shr fun C C2 hC hC2 => ?_
  have hxl := hx.len
  refine nx ?_
  refine ⟨ci_nonneg _, Int.le_refl _, by simp only [wz]; omega, by simp only [wz]; omega, ?_⟩
  refine LoopG.intro (σ := Nat × List Nat) [0, 1, 5, 12, 13, 14] [1050]
    (fun s => [.d (dN Ψ x), .d (.i .i64 (Ω .ci n)), .own 1050 1, .d (dN Ψ x), .d (.i .i64 (Ω .ci x.length)), .d (.i .i64 (Ω .ci s.1))])
    (fun s => [.row true T.uint32 1 (Ψ .lims s.2)])
    (fun s => s.1 ≤ x.length ∧ s.2.length = x.length ∧ lim s.2 ∧ nv (s.2.take s.1) = nv x / 2 ^ n % 4294967296 ^ s.1)
    (fun s => x.length - s.1) (0, List.replicate x.length 0) [1102] ⟨Nat.zero_le _, by simp, lim_rep _, by simp [Nat.mod_one]⟩ ⟨rfl, rfl, ?_⟩ ?_
  · refine Eq.trans (b := [.row true T.uint32 1 _]) rfl ?_
    rw [← srep_lims]
  rintro ⟨i, z⟩ ⟨hi, hzl, hzn, he⟩
  simp only at hi hzl hzn he
  refine nx ?_
  refine BrG.split (fun h => ?_) (fun h => ?_)
  · have hi2 : i < x.length := by have := h; simp only [wz] at this; omega
    obtain ⟨u, hu⟩ : ∃ u, x[i]? = some u := ⟨_, List.getElem?_eq_getElem hi2⟩
    have hul := lim_get hx.lim hu
    have hd := shr_limb hx.lim hu hn
    have hgl := getD_lt hx.lim (i + 1)
    have fin : ∀ v, v = x.getD (i + 1) 0 → Ω .wrap .u32 (Ω .ishr .u64 (Ω .ior .u64 (Ω .ishl .u64 (Ω .wrap .u64 (Ω .ci v)) 32) (Ω .wrap .u64 (Ω .ci u))) (Ω .ci n)) = Ω .ci ((v * 4294967296 + u) / 2 ^ n % 4294967296) ∧
        ((i + 1 ≤ x.length ∧ (z.set i ((v * 4294967296 + u) / 2 ^ n % 4294967296)).length = x.length ∧ lim (z.set i ((v * 4294967296 + u) / 2 ^ n % 4294967296)) ∧ nv ((z.set i ((v * 4294967296 + u) / 2 ^ n % 4294967296)).take (i + 1)) = nv x / 2 ^ n % 4294967296 ^ (i + 1))) := fun v hv => by
      have hvl : v < 4294967296 := hv ▸ hgl
      refine ⟨?_, hi2, by simp [hzl], lim_set hzn _ (Nat.mod_lt _ (by omega)), ?_⟩
      · rw [wrapu64_ci, wrapu64_ci, Nat.mod_eq_of_lt (by omega), Nat.mod_eq_of_lt (by omega), ishl32, wrapu64_ci, Nat.mod_eq_of_lt (by omega), ior64_ci (by omega) (by omega), or_shl _ hul, ishr_ci _ _ _ (by show n ≤ 64; omega), wrapu32_ci]
      · have e3 : (z.set i ((v * 4294967296 + u) / 2 ^ n % 4294967296))[i]? = some ((v * 4294967296 + u) / 2 ^ n % 4294967296) := by simp [hzl, hi2]
        rw [nv_take_succ e3, List.take_set_of_le (Nat.le_refl _), he, hv, hd, Nat.pow_succ, Nat.mod_mul]
    refine nx ?_
    refine idx_lims i u rfl hu rfl ?_
    refine nx ?_
    refine BrG.split (fun h => ?_) (fun h => ?_)
    · rw [wrap_succ (by omega)] at h
      have hi3 : i + 1 < x.length := by have := h; simp only [wz] at this; omega
      obtain ⟨v, hv⟩ : ∃ v, x[i + 1]? = some v := ⟨_, List.getElem?_eq_getElem hi3⟩
      obtain ⟨f1, f2⟩ := fin v (by simp [List.getD, hv])
      refine nx ?_
      refine idx_lims (i + 1) v (wrap_succ (by omega)) hv rfl ?_
      refine nx ?_
      refine ⟨ci_nonneg _, ci_nonneg _, by simp only [wz, List.length_set]; omega, by simp only [wz, List.length_set]; omega, (i + 1, z.set i ((v * 4294967296 + u) / 2 ^ n % 4294967296)), [1050], f2, by simp only; omega, rfl, ?_, ?_⟩
      · refine Eq.trans (b := [.d (dN Ψ x), .d (.i .i64 (Ω .ci n)), .own 1050 1, .d (dN Ψ x), .d (.i .i64 (Ω .ci x.length)), .d (.i .i64 _)]) rfl ?_
        rw [wrap_succ (by omega)]
      · refine Eq.trans (b := [.row true T.uint32 1 _]) rfl ?_
        rw [f1, sset_lims]
    · rw [wrap_succ (by omega)] at h
      have hi3 : x.length ≤ i + 1 := by have := h; simp only [wz] at this; omega
      obtain ⟨f1, f2⟩ := fin 0 (by simp [List.getD, hi3])
      refine nx ?_
      refine ⟨ci_nonneg _, ci_nonneg _, by simp only [wz, List.length_set]; omega, by simp only [wz, List.length_set]; omega, (i + 1, z.set i ((0 * 4294967296 + u) / 2 ^ n % 4294967296)), [1050], f2, by simp only; omega, rfl, ?_, ?_⟩
      · refine Eq.trans (b := [.d (dN Ψ x), .d (.i .i64 (Ω .ci n)), .own 1050 1, .d (dN Ψ x), .d (.i .i64 (Ω .ci x.length)), .d (.i .i64 _)]) rfl ?_
        rw [wrap_succ (by omega)]
      · refine Eq.trans (b := [.row true T.uint32 1 _]) rfl ?_
        rw [show Ω .wrap .u64 0 = Ω .wrap .u64 (Ω .ci 0) from rfl, f1, sset_lims]
  · have hi2 : i = x.length := by have := h; simp only [wz] at this; omega
    subst hi2
    rw [List.take_of_length_le (by omega), Nat.mod_eq_of_lt (Nat.lt_of_le_of_lt (Nat.div_le_self _ _) (nv_lt hx.lim))] at he
    have hg := trim_good z hzn (by omega)
    rw [he] at hg
    refine nx ?_
    refine ⟨_, hC _ _ _ hg, ?_⟩
    exact nx trivial
end Go.K.S
end
section
/-
  Contracts: nat.less, nat.back.
-/
namespace Go.K
open Go
/-- so many limbs of a number -/
def ln : Nat → Nat → List Nat
  | 0, _ => []
  | k + 1, n => n % 4294967296 :: ln k (n / 4294967296)
theorem ln_eq : ∀ (s : List Nat), lim s → s = ln s.length (nv s)
  | [], _ => rfl
  | x :: s, h => by
    rw [lim_cons] at h
    have ih := ln_eq s h.2
    rw [List.length_cons, nv_cons, ln]
    have e1 : (x + 4294967296 * nv s) % 4294967296 = x := by omega
    have e2 : (x + 4294967296 * nv s) / 4294967296 = nv s := by omega
    rw [e1, e2, ← ih]
theorem len_ln (k n : Nat) : (ln k n).length = k := by
  induction k generalizing n with
  | zero => rfl
  | succ k ih => rw [ln, List.length_cons, ih]
theorem lim_ln (k n : Nat) : lim (ln k n) := by
  induction k generalizing n with
  | zero => exact lim_nil
  | succ k ih => rw [ln, lim_cons]; exact ⟨Nat.mod_lt _ (by omega), ih _⟩
theorem nv_ln {k n : Nat} (h : n < 4294967296 ^ k) : nv (ln k n) = n := by
  induction k generalizing n with
  | zero => simp at h; subst h; rfl
  | succ k ih =>
    rw [ln, nv_cons, ih (by rw [Nat.div_lt_iff_lt_mul (by omega), ← Nat.pow_succ]; exact h)]
    omega

theorem get_mid (P R : List Nat) (a : Nat) {k : Nat} (hk : k = P.length) : (P ++ a :: R)[k]? = some a := by subst hk; simp
theorem set_mid (P R : List Nat) (a x : Nat) {k : Nat} (hk : k = P.length) : (P ++ a :: R).set k x = P ++ x :: R := by subst hk; simp
theorem less_step {M sv t Vk X c bo tt lo c' s W bo' v : Nat} (h : sv + t * Vk = X + M * (c + bo)) (h1 : t * v + c = tt) (h2 : lo + 4294967296 * c' = tt) (h3 : s + lo + bo = W + 4294967296 * bo') :
    sv + M * s + t * (Vk + M * v) = X + M * W + M * 4294967296 * (c' + bo') := by
  have e1 : t * (Vk + M * v) = t * Vk + M * (t * v) := by rw [Nat.mul_add, Nat.mul_left_comm]
  have e2 : M * (s + t * v + c + bo) = M * (W + 4294967296 * (c' + bo')) := by congr 1; omega
  have e3 : M * (s + t * v + c + bo) = M * s + M * (t * v) + M * (c + bo) := by rw [← Nat.mul_add, ← Nat.mul_add]; congr 1; omega
  have e4 : M * (W + 4294967296 * (c' + bo')) = M * W + M * 4294967296 * (c' + bo') := by rw [Nat.mul_add, Nat.mul_assoc]
  rw [e1]
  omega
end Go.K
namespace Go.K.S
open Go Go.K
set_option maxHeartbeats 1000000
set_option linter.unusedVariables false
set_option linter.unusedSimpArgs false

theorem less_good (A W Z v : List Nat) (t : Nat) (hW : lim W) (hv : lim v) (hl : (A ++ W ++ Z).length < 1099511627776) (hWl : W.length = v.length + 1) (ht : t < 4294967296) :
      Good P F.nat_less [.ref 0 1 A.length W.length, .d (dN Ψ v), .d (.i .u64 (Ω .ci t))] [.row true T.uint32 1 (Ψ .lims (A ++ W ++ Z))] (.d (.b (decide (nv W < t * nv v))))
        [.row true T.uint32 1 (Ψ .lims (A ++ ln W.length (nv W + (if nv W < t * nv v then 4294967296 ^ W.length else 0) - t * nv v) ++ Z))] := by
  obtain ⟨L0, hL0⟩ : ∃ L, L = A ++ W ++ Z := ⟨_, rfl⟩
  have hLl : L0.length = A.length + W.length + Z.length := by rw [hL0]; simp; omega
  rw [← hL0] at hl ⊢
  obtain ⟨n, hn⟩ : ∃ n, n = A.length := ⟨_, rfl⟩
  obtain ⟨m, hm⟩ : ∃ m, m = W.length := ⟨_, rfl⟩
  rw [← hn, ← hm]
  refine G.nat_less (fun C C2 hC hC2 => ?_) (hb := by simp)
  generalize hR : Ψ .lims (A ++ ln m (nv W + (if nv W < t * nv v then 4294967296 ^ m else 0) - t * nv v) ++ Z) = R
  generalize hB : decide (nv W < t * nv v) = B
  refine nx ?_
  refine LoopG.intro (σ := Nat × List Nat × List Nat × Nat × Nat) [0, 1, 2, 7, 8, 12, 13, 14] [0]
    (fun s => [.ref 0 1 n m, .d (dN Ψ v), .d (.i .u64 (Ω .ci t)), .d (.i .u64 (Ω .ci s.2.2.2.1)), .d (.i .u32 (Ω .ci s.2.2.2.2)), .d (dN Ψ v), .d (.i .i64 (Ω .ci v.length)), .d (.i .i64 (Ω .ci s.1))])
    (fun s => [.row true T.uint32 1 (Ψ .lims s.2.1)])
    (fun s => s.1 ≤ v.length ∧ s.2.1 = A ++ s.2.2.1 ++ (W.drop s.1 ++ Z) ∧ s.2.2.1.length = s.1 ∧ lim s.2.2.1 ∧ s.2.2.2.1 < 4294967296 ∧ s.2.2.2.2 ≤ 1 ∧
      nv s.2.2.1 + t * nv (v.take s.1) = nv (W.take s.1) + 4294967296 ^ s.1 * (s.2.2.2.1 + s.2.2.2.2))
    (fun s => v.length - s.1) (0, L0, [], 0, 0) [0] ⟨Nat.zero_le _, by simp [hL0], rfl, lim_nil, by simp only; omega, by simp only; omega, by simp⟩ ⟨rfl, rfl, rfl⟩ ?_
  rintro ⟨i, L, s, c, o⟩ ⟨hi, hL, hsl, hsn, hc, ho, he⟩
  simp only at hi hL hsl hsn hc ho he
  have hLL : L.length = n + m + Z.length := by rw [hL]; simp [hsl]; omega
  have hiW : i < W.length := by omega
  obtain ⟨w, hw⟩ : ∃ w, W[i]? = some w := ⟨_, List.getElem?_eq_getElem hiW⟩
  have hwl := lim_get hW hw
  have hdrop : W.drop i = w :: W.drop (i + 1) := by
    obtain ⟨q, rfl⟩ := List.getElem?_eq_some_iff.1 hw
    exact List.drop_eq_getElem_cons q
  have hL' : L = (A ++ s) ++ w :: (W.drop (i + 1) ++ Z) := by rw [hL, hdrop]; simp
  have hat : L[n + i]? = some w := by rw [hL']; exact get_mid _ _ _ (by simp [hsl, hn])
  have hset : ∀ x, L.set (n + i) x = A ++ (s ++ [x]) ++ (W.drop (i + 1) ++ Z) := fun x => by
    rw [hL', set_mid _ _ _ _ (by simp [hsl, hn])]; simp
  refine nx ?_
  refine BrG.split (fun h => ?_) (fun h => ?_)
  · have hi2 : i < v.length := by have := h; simp only [wz] at this; omega
    obtain ⟨u, hu⟩ : ∃ u, v[i]? = some u := ⟨_, List.getElem?_eq_getElem hi2⟩
    have hul := lim_get hv hu
    have hfit := mul_fits ht hul (show 0 < 4294967296 by omega) hc
    refine nx ?_
    refine idx_lims i u rfl hu rfl ?_
    refine nx ?_
    refine ⟨ci_nonneg _, by simp only [wz]; omega, .i .u32 (Ω .ci w), by rw [w_nadd, sget_lims, hat]; rfl, Nat.le_refl _, (by first | exact rfl | exact fun _ => rfl), ?_⟩
    refine nx ?_
    have ht2 : Ω .wrap .u64 (Ω .wrap .u64 (Ω .ci t * Ω .wrap .u64 (Ω .ci u)) + Ω .ci c) = Ω .ci (t * u + c) := by
      rw [wrapu64_ci, Nat.mod_eq_of_lt (a := u) (by omega), ci_mul, wrapu64_ci, Nat.mod_eq_of_lt (by omega), ci_add, wrapu64_ci, Nat.mod_eq_of_lt (by omega)]
    rw [ht2, wrapu32_ci]
    refine ⟨_, hC _ _ _ (sub32_good w ((t * u + c) % 4294967296) o hwl (Nat.mod_lt _ (by omega)) ho), ?_⟩
    have hx : (4294967296 + w - (t * u + c) % 4294967296 - o) % 4294967296 < 4294967296 := Nat.mod_lt _ (by omega)
    have hb : (4294967296 + w - (t * u + c) % 4294967296 - o) % 4294967296 + (t * u + c) % 4294967296 + o = w + 4294967296 * (if w < (t * u + c) % 4294967296 + o then 1 else 0) := by
      split <;> omega
    have hb1 : (if w < (t * u + c) % 4294967296 + o then 1 else 0) ≤ 1 := by split <;> omega
    generalize (4294967296 + w - (t * u + c) % 4294967296 - o) % 4294967296 = x at *
    generalize (if w < (t * u + c) % 4294967296 + o then 1 else 0) = o' at *
    refine nx ?_
    refine ⟨ci_nonneg _, by simp only [wz]; omega, by simp only [wz, List.length_set]; omega, (i + 1, L.set (n + i) x, s ++ [x], (t * u + c) / 4294967296, o'), [0], ⟨hi2, hset x, by simp [hsl], lim_append.2 ⟨hsn, by simp [lim_cons, lim_nil]; exact hx⟩, by simp only; omega, hb1, ?_⟩, by simp only; omega, rfl, ?_, ?_⟩
    · simp only
      rw [nv_snoc, hsl, nv_take_succ hu, nv_take_succ hw, Nat.pow_succ]
      exact less_step he rfl (Nat.mod_add_div _ _) hb
    · refine Eq.trans (b := [.ref 0 1 n m, .d (dN Ψ v), .d (.i .u64 (Ω .ci t)), .d (.i .u64 _), .d (.i .u32 (Ω .ci _)), .d (dN Ψ v), .d (.i .i64 (Ω .ci v.length)), .d (.i .i64 _)]) rfl ?_
      rw [wrap_succ (by omega), ishr32]
    · refine Eq.trans (b := [.row true T.uint32 1 _]) rfl ?_
      (try rw [w_nadd])
      rw [sset_lims]
  · have hi2 : i = v.length := by have := h; simp only [wz] at this; omega
    subst hi2
    refine nx ?_
    refine ⟨ci_nonneg _, by simp only [wz]; omega, .i .u32 (Ω .ci w), by rw [w_nadd, sget_lims, hat]; rfl, Nat.le_refl _, (by first | exact rfl | exact fun _ => rfl), ?_⟩
    refine nx ?_
    rw [wrapu32_ci, Nat.mod_eq_of_lt hc]
    refine ⟨_, hC _ _ _ (sub32_good w c o hwl hc ho), ?_⟩
    have hx : (4294967296 + w - c - o) % 4294967296 < 4294967296 := Nat.mod_lt _ (by omega)
    have hb : (4294967296 + w - c - o) % 4294967296 + c + o = w + 4294967296 * (if w < c + o then 1 else 0) := by
      split <;> omega
    have hb1 : (if w < c + o then 1 else 0) ≤ 1 := by split <;> omega
    generalize (4294967296 + w - c - o) % 4294967296 = x at *
    generalize (if w < c + o then 1 else 0) = o' at *
    have hWt : nv W = nv (W.take v.length) + 4294967296 ^ v.length * w := by
      have := nv_take_succ hw
      rw [← hWl, List.take_length] at this
      exact this
    have hfin : nv (s ++ [x]) + t * nv v = nv W + 4294967296 ^ m * o' := by
      rw [List.take_length] at he
      rw [nv_snoc, hsl, hWt, hm, hWl, Nat.pow_succ, Nat.mul_assoc]
      have e : 4294967296 ^ v.length * (x + c + o) = 4294967296 ^ v.length * (w + 4294967296 * o') := by rw [hb]
      rw [Nat.mul_add, Nat.mul_add, Nat.mul_add] at e
      rw [Nat.mul_add] at he
      omega
    have hsx : lim (s ++ [x]) := lim_append.2 ⟨hsn, by simp [lim_cons, lim_nil]; exact hx⟩
    have hsxl : (s ++ [x]).length = m := by simp [hsl]; omega
    have hlt := nv_lt hsx
    rw [hsxl] at hlt
    refine nx ?_
    have hRx : (o' = if nv W < t * nv v then 1 else 0) → Ψ .lims (L.set (n + v.length) x) = R := fun ho' => by
      rw [← hR, hset x]
      have e1 : s ++ [x] = ln m (nv (s ++ [x])) := by have := ln_eq _ hsx; rwa [hsxl] at this
      have e2 : nv (s ++ [x]) = nv W + (if nv W < t * nv v then 4294967296 ^ m else 0) - t * nv v := by
        rw [ho'] at hfin
        split at hfin <;> rename_i q <;> simp only [q, if_true, if_false] <;> omega
      rw [e1, e2, List.drop_of_length_le (by omega), List.nil_append]
    refine ⟨ci_nonneg _, by simp only [wz]; omega, by simp only [wz, List.length_set]; omega, BrG.split (fun h => ?_) (fun h => ?_)⟩
    · have : o' = 1 := by have : ¬ Ω .ci o' = 0 := by have := h; simp only [wz] at this ⊢; omega
                          simp only [wz] at this; omega
      subst this
      have hlt2 : nv W < t * nv v := by omega
      have := hRx (by rw [if_pos hlt2])
      have hB' : B = true := by rw [← hB]; exact decide_eq_true hlt2
      subst hB'
      refine nx ?_
      refine ⟨[], rfl, rfl, ?_⟩
      refine Eq.trans (b := [.row true T.uint32 1 _]) rfl ?_
      rw [w_nadd, sset_lims, this]
    · have : o' = 0 := by have : Ω .ci o' = 0 := by have := h; simp only [wz] at this ⊢; omega
                          simp only [wz] at this; omega
      subst this
      have hlt2 : ¬ nv W < t * nv v := by omega
      have := hRx (by rw [if_neg hlt2])
      have hB' : B = false := by rw [← hB]; exact decide_eq_false hlt2
      subst hB'
      refine nx ?_
      refine ⟨[], rfl, rfl, ?_⟩
      refine Eq.trans (b := [.row true T.uint32 1 _]) rfl ?_
      rw [w_nadd, sset_lims, this]
end Go.K.S
end
section
/-
  Contract: nat.back.
-/
namespace Go.K.S
open Go Go.K
set_option maxHeartbeats 1000000
set_option linter.unusedVariables false
set_option linter.unusedSimpArgs false

theorem back_good (A W Z v : List Nat) (hW : lim W) (hv : lim v) (hl : (A ++ W ++ Z).length < 1099511627776) (hWl : W.length = v.length + 1) :
      Good P F.nat_back [.ref 0 1 A.length W.length, .d (dN Ψ v)] [.row true T.uint32 1 (Ψ .lims (A ++ W ++ Z))] (.tup [])
        [.row true T.uint32 1 (Ψ .lims (A ++ ln W.length ((nv W + nv v) % 4294967296 ^ W.length) ++ Z))] := by
  obtain ⟨L0, hL0⟩ : ∃ L, L = A ++ W ++ Z := ⟨_, rfl⟩
  have hLl : L0.length = A.length + W.length + Z.length := by rw [hL0]; simp; omega
  rw [← hL0] at hl ⊢
  obtain ⟨n, hn⟩ : ∃ n, n = A.length := ⟨_, rfl⟩
  obtain ⟨m, hm⟩ : ∃ m, m = W.length := ⟨_, rfl⟩
  rw [← hn, ← hm]
  refine G.nat_back (fun C C2 hC hC2 => ?_) (hb := by simp)
  generalize hR : Ψ .lims (A ++ ln m ((nv W + nv v) % 4294967296 ^ m) ++ Z) = R
  refine nx ?_
  refine LoopG.intro (σ := Nat × List Nat × List Nat × Nat) [0, 1, 4, 7, 8, 9] [0]
    (fun s => [.ref 0 1 n m, .d (dN Ψ v), .d (.i .u32 (Ω .ci s.2.2.2)), .d (dN Ψ v), .d (.i .i64 (Ω .ci v.length)), .d (.i .i64 (Ω .ci s.1))])
    (fun s => [.row true T.uint32 1 (Ψ .lims s.2.1)])
    (fun s => s.1 ≤ v.length ∧ s.2.1 = A ++ s.2.2.1 ++ (W.drop s.1 ++ Z) ∧ s.2.2.1.length = s.1 ∧ lim s.2.2.1 ∧ s.2.2.2 ≤ 1 ∧
      nv s.2.2.1 + 4294967296 ^ s.1 * s.2.2.2 = nv (W.take s.1) + nv (v.take s.1))
    (fun s => v.length - s.1) (0, L0, [], 0) [0] ⟨Nat.zero_le _, by simp [hL0], rfl, lim_nil, by simp only; omega, by simp⟩ ⟨rfl, rfl, rfl⟩ ?_
  rintro ⟨i, L, s, c⟩ ⟨hi, hL, hsl, hsn, hc, he⟩
  simp only at hi hL hsl hsn hc he
  have hLL : L.length = n + m + Z.length := by rw [hL]; simp [hsl]; omega
  have hiW : i < W.length := by omega
  obtain ⟨w, hw⟩ : ∃ w, W[i]? = some w := ⟨_, List.getElem?_eq_getElem hiW⟩
  have hwl := lim_get hW hw
  have hdrop : W.drop i = w :: W.drop (i + 1) := by
    obtain ⟨q, rfl⟩ := List.getElem?_eq_some_iff.1 hw
    exact List.drop_eq_getElem_cons q
  have hL' : L = (A ++ s) ++ w :: (W.drop (i + 1) ++ Z) := by rw [hL, hdrop]; simp
  have hat : L[n + i]? = some w := by rw [hL']; exact get_mid _ _ _ (by simp [hsl, hn])
  have hset : ∀ x, L.set (n + i) x = A ++ (s ++ [x]) ++ (W.drop (i + 1) ++ Z) := fun x => by
    rw [hL', set_mid _ _ _ _ (by simp [hsl, hn])]; simp
  refine nx ?_
  refine BrG.split (fun h => ?_) (fun h => ?_)
  · have hi2 : i < v.length := by have := h; simp only [wz] at this; omega
    obtain ⟨u, hu⟩ : ∃ u, v[i]? = some u := ⟨_, List.getElem?_eq_getElem hi2⟩
    have hul := lim_get hv hu
    refine nx ?_
    refine idx_lims i u rfl hu rfl ?_
    refine nx ?_
    refine ⟨ci_nonneg _, by simp only [wz]; omega, .i .u32 (Ω .ci w), by rw [w_nadd, sget_lims, hat]; rfl, Nat.le_refl _, (by first | exact rfl | exact fun _ => rfl), ?_⟩
    refine nx ?_
    refine ⟨_, hC _ _ _ (add32_good w u c hwl hul hc), ?_⟩
    have hstep := add_step (x := w) (y := u) he
    have hx : (w + u + c) % 4294967296 < 4294967296 := Nat.mod_lt _ (by omega)
    have hb1 : (w + u + c) / 4294967296 ≤ 1 := by omega
    generalize (w + u + c) % 4294967296 = x at *
    generalize (w + u + c) / 4294967296 = o' at *
    refine nx ?_
    refine ⟨ci_nonneg _, by simp only [wz]; omega, by simp only [wz, List.length_set]; omega, (i + 1, L.set (n + i) x, s ++ [x], o'), [0], ⟨hi2, hset x, by simp [hsl], lim_append.2 ⟨hsn, by simp [lim_cons, lim_nil]; exact hx⟩, hb1, ?_⟩, by simp only; omega, rfl, ?_, ?_⟩
    · simp only
      rw [nv_snoc, hsl, nv_take_succ hu, nv_take_succ hw, Nat.pow_succ]
      exact hstep
    · refine Eq.trans (b := [.ref 0 1 n m, .d (dN Ψ v), .d (.i .u32 (Ω .ci _)), .d (dN Ψ v), .d (.i .i64 (Ω .ci v.length)), .d (.i .i64 _)]) rfl ?_
      rw [wrap_succ (by omega)]
    · refine Eq.trans (b := [.row true T.uint32 1 _]) rfl ?_
      (try rw [w_nadd])
      rw [sset_lims]
  · have hi2 : i = v.length := by have := h; simp only [wz] at this; omega
    subst hi2
    refine nx ?_
    refine ⟨ci_nonneg _, by simp only [wz]; omega, .i .u32 (Ω .ci w), by rw [w_nadd, sget_lims, hat]; rfl, Nat.le_refl _, (by first | exact rfl | exact fun _ => rfl), ?_⟩
    have hWt : nv W = nv (W.take v.length) + 4294967296 ^ v.length * w := by
      have := nv_take_succ hw
      rw [← hWl, List.take_length] at this
      exact this
    have hsx : lim (s ++ [(w + c) % 4294967296]) := lim_append.2 ⟨hsn, by simp [lim_cons, lim_nil]; exact Nat.mod_lt _ (by omega)⟩
    have hsxl : (s ++ [(w + c) % 4294967296]).length = m := by simp [hsl]; omega
    have hlt := nv_lt hsx
    rw [hsxl] at hlt
    have hfin : nv (s ++ [(w + c) % 4294967296]) + 4294967296 ^ m * ((w + c) / 4294967296) = nv W + nv v := by
      rw [List.take_length] at he
      rw [nv_snoc, hsl, hWt, hm, hWl, Nat.pow_succ, Nat.mul_assoc, Nat.add_assoc, ← Nat.mul_add, Nat.mod_add_div, Nat.mul_add]
      omega
    have hRx : Ψ .lims (L.set (n + v.length) ((w + c) % 4294967296)) = R := by
      rw [← hR, hset]
      have e1 := ln_eq _ hsx
      rw [hsxl] at e1
      have e2 : nv (s ++ [(w + c) % 4294967296]) = (nv W + nv v) % 4294967296 ^ m := by
        rw [← hfin, Nat.add_mul_mod_self_left, Nat.mod_eq_of_lt hlt]
      rw [e1, e2, List.drop_of_length_le (by omega), List.nil_append]
    refine nx ?_
    rw [ci_add, wrapu32_ci]
    refine ⟨ci_nonneg _, by simp only [wz]; omega, by simp only [wz, List.length_set]; omega, [], rfl, rfl, ?_⟩
    refine Eq.trans (b := [.row true T.uint32 1 _]) rfl ?_
    rw [w_nadd, sset_lims, hRx]
end Go.K.S
end
section
/-
  Contracts by which a result is handed over: nat.trim, nat.Shl.
-/
namespace Go.K.S
open Go Go.K
set_option maxHeartbeats 1000000
set_option linter.unusedVariables false
set_option linter.unusedSimpArgs false

theorem trim_own (l : List Nat) (hl : lim l) (hb : l.length < 1099511627776) : Good P F.nat_trim [.own 0 1] [.row true T.uint32 1 (Ψ .lims l)] (.own 1 1) [.dead, .row true T.uint32 1 (Ψ .lims (Ψ .cn (nv l)))] := by
  refine G2.nat_trim md (fun C C2 hC hC2 => ?_) (hb := by simp)
  refine nx ?_
  refine LoopG.intro (σ := Nat) [0, 3] [0] (fun n => [.own 0 1, .d (.i .i64 (Ω .ci n))]) (fun _ => [.row true T.uint32 1 (Ψ .lims l)]) (fun n => n ≤ l.length ∧ nv (l.take n) = nv l) (fun n => n) l.length [0] ⟨Nat.le_refl _, by simp⟩ ⟨rfl, rfl, rfl⟩ ?_
  rintro n ⟨hn, he⟩
  refine nx ?_
  refine BrG.split (fun h => ?_) (fun h => ?_)
  · refine nx ?_
    simp [wz] at h
    obtain ⟨v, hv⟩ : ∃ v, l[n - 1]? = some v := ⟨_, List.getElem?_eq_getElem (by omega)⟩
    refine own_lims (n - 1) v (wrap_pred h (by omega)) hv ?_ ?_ ?_
    · exact Nat.le_refl _
    · exact rfl
    refine nx ?_
    have hs := nv_take_succ hv
    have hn1 : n - 1 + 1 = n := by omega
    rw [hn1] at hs
    refine BrG.split (fun h => ?_) (fun h => ?_)
    · refine nx ?_
      simp [wz] at h
      refine ⟨n - 1, [0], ⟨by omega, by rw [h] at hs; omega⟩, by omega, rfl, ?_, rfl⟩
      rw [← wrap_pred (by omega) (by omega)]; rfl
    · refine nx ?_
      simp [wz] at h
      have hc := cn_cano _ (lim_take hl n) (by rw [← hn1]; exact cano_take hv h)
      rw [he] at hc
      refine ⟨ci_nonneg _, Int.le_refl _, by simp only [wz]; omega, [1403], rfl, rfl, ?_⟩
      refine Eq.trans (b := [.dead, .row true T.uint32 1 _]) rfl ?_
      rw [ssub_lims', List.drop_zero, hc]
  · refine nx ?_
    simp [wz] at h
    subst h
    have h0 : nv l = 0 := by rw [← he]; rfl
    refine ⟨ci_nonneg _, Int.le_refl _, by simp only [wz]; omega, [1403], rfl, rfl, ?_⟩
    refine Eq.trans (b := [.dead, .row true T.uint32 1 _]) rfl ?_
    rw [ssub_lims', h0, cn_zero]; rfl

def mdShl : FuncId → Bool := fun g => g == F.nat_trim

/-- shifted, in memory that is handed over -/
theorem shl_own (x : List Nat) (n : Nat) (hx : N x) (hxs : x.length < 549755813888) (hn : n ≤ 65536) : Good P F.nat_Shl [.d (dN Ψ x), .d (.i .i64 (Ω .ci n))] [] (.tup [.own 0 1, .d (.b true)]) [.row true T.uint32 1 (Ψ .lims (Ψ .cn (nv x * 2 ^ n)))] := by
  refine G2.nat_Shl mdShl (fun C C2 hC hC2 => ?_)
  have hr : n % 32 < 32 := Nat.mod_lt _ (by omega)
  have hpow : 2 ^ n = 4294967296 ^ (n / 32) * 2 ^ (n % 32) := by
    rw [show 4294967296 = 2 ^ 32 from rfl, ← Nat.pow_mul, ← Nat.pow_add]
    congr 1; omega
  generalize hres : nv x * 2 ^ n = res
  refine nx ?_
  refine BrG.split (fun g => ?_) (fun g => ?_)
  · have := g; simp only [wz] at this; omega
  refine nx ?_
  refine BrG.split (fun g => ?_) (fun g => ?_)
  · have := g; simp only [wz] at this; omega
  refine nx ?_
  rw [tdiv32, wrap_ci (by omega)]
  refine ⟨ci_nonneg _, Int.le_refl _, by simp only [wz]; omega, by simp only [wz]; omega, ?_⟩
  have h0 := trim_good x hx.lim hx.len
  have hpn := hx.cn.lim
  have hpl := Nat.lt_of_le_of_lt (len_cn_nv hx.lim) hxs
  have hv := nv_cn (nv x)
  generalize Ψ .cn (nv x) = p at *
  refine ⟨_, [], hC2 _ _ _ _ _ h0, ?_⟩
  refine nx ?_
  refine LoopG.intro (σ := Nat × List Nat × Nat) [1, 6, 7, 20, 21, 22] [1050]
    (fun s => [.d (.i .i64 (Ω .ci n)), .own 1050 1, .d (.i .u32 (Ω .ci s.2.2)), .d (dN Ψ p), .d (.i .i64 (Ω .ci p.length)), .d (.i .i64 (Ω .ci s.1))])
    (fun s => [.row true T.uint32 1 (Ψ .lims s.2.1)])
    (fun s => s.1 ≤ p.length ∧ s.2.1.length = n / 32 + s.1 ∧ lim s.2.1 ∧ s.2.2 < 2 ^ (n % 32) ∧ nv s.2.1 + 4294967296 ^ (n / 32) * 4294967296 ^ s.1 * s.2.2 = nv (p.take s.1) * (4294967296 ^ (n / 32) * 2 ^ (n % 32)))
    (fun s => p.length - s.1) (0, List.replicate (n / 32) 0, 0) [1302] ⟨Nat.zero_le _, by simp, lim_rep _, Nat.pow_pos (by omega), by simp [nv_rep]⟩ ⟨rfl, rfl, ?_⟩ ?_
  · refine Eq.trans (b := [.row true T.uint32 1 _]) rfl ?_
    rw [← srep_lims]
  rintro ⟨i, z, c⟩ ⟨hi, hzl, hzn, hc, he⟩
  simp only at hi hzl hzn hc he
  refine nx ?_
  refine BrG.split (fun h => ?_) (fun h => ?_)
  · have hi2 : i < p.length := by have := h; simp only [wz] at this; omega
    obtain ⟨t, ht⟩ : ∃ t, p[i]? = some t := ⟨_, List.getElem?_eq_getElem hi2⟩
    have htl := lim_get hpn ht
    refine nx ?_
    refine idx_lims i t rfl ht rfl ?_
    refine nx ?_
    rw [tmod32]
    obtain ⟨q1, q2, q3⟩ := shl_limb htl hr hc
    have hcl : 2 ^ (n % 32) ≤ 4294967296 := Nat.pow_le_pow_right (n := 2) (by omega) (show n % 32 ≤ 32 by omega)
    have e1 : Ω .ior .u32 (Ω .ishl .u32 (Ω .ci t) (Ω .ci (n % 32))) (Ω .ci c) = Ω .ci ((t * 2 ^ (n % 32)) % 4294967296 ||| c) := by
      rw [ishl_ci _ _ _ (by show n % 32 ≤ 32; omega), wrapu32_ci, ior_ci (Nat.mod_lt _ (by omega)) (by omega)]
    have e2 : Ω .wrap .i64 (32 - Ω .ci (n % 32)) = Ω .ci (32 - n % 32) := wrap_sub (a := 32) (by omega) (by omega)
    have e3 : Ω .wrap .u32 (Ω .ishr .u64 (Ω .wrap .u64 (Ω .ci t)) (Ω .ci (32 - n % 32))) = Ω .ci (t / 2 ^ (32 - n % 32)) := by
      rw [wrapu64_ci, Nat.mod_eq_of_lt (by omega), ishr_ci _ _ _ (by show 32 - n % 32 ≤ 64; omega), wrapu32_ci, Nat.mod_eq_of_lt]
      exact Nat.lt_of_lt_of_le q3 hcl
    rw [e1, e2]
    refine ⟨ci_nonneg _, cells_one _ _, (by simp only [wz]; omega), ci_nonneg _, (i + 1, z ++ [(t * 2 ^ (n % 32)) % 4294967296 ||| c], t / 2 ^ (32 - n % 32)), [1808], ⟨hi2, by simp [hzl]; omega, lim_append.2 ⟨hzn, by simp [lim_cons, lim_nil]; exact q2⟩, q3, ?_⟩, by simp only; omega, rfl, ?_, ?_⟩
    · simp only
      rw [nv_snoc, hzl, nv_take_succ ht, Nat.pow_succ, Nat.pow_add, ← Nat.mul_assoc]
      exact shl_step he q1
    · refine Eq.trans (b := [.d (.i .i64 (Ω .ci n)), .own 1050 1, .d (.i .u32 _), .d (dN Ψ p), .d (.i .i64 (Ω .ci p.length)), .d (.i .i64 _)]) rfl ?_
      rw [wrap_succ (by omega), e3]
    · refine Eq.trans (b := [.row true T.uint32 1 _]) rfl ?_
      rw [scat_snoc]
  · have hi2 : i = p.length := by have := h; simp only [wz] at this; omega
    subst hi2
    have hcl : 2 ^ (n % 32) ≤ 4294967296 := Nat.pow_le_pow_right (n := 2) (by omega) (show n % 32 ≤ 32 by omega)
    rw [List.take_length, ← hpow, hv, ← Nat.pow_add, ← hzl, ← nv_snoc, hres] at he
    have hg := trim_own (z ++ [c]) (lim_append.2 ⟨hzn, by simp [lim_cons, lim_nil]; omega⟩) (by simp; omega)
    rw [he] at hg
    refine nx ?_
    refine ⟨cells_one _ _, (by simp only [wz]; omega), ?_⟩
    rw [scat_snoc]
    refine nx ?_
    refine ⟨_, _, hC2 _ _ _ _ _ hg, ?_⟩
    refine nx ?_
    exact ⟨[1016832], rfl, rfl, rfl⟩
end Go.K.S
end
