/-
  No cell of these rows narrows 'for every input' (looked for: loops, veiled, ifaces, maps, wideKeys, modest, calm, conditions, laid).
  DERIVED. THE GIVEN ROWS OF THIS SEAT. 8 by the template 'for every input the law returns true; each argument reads behind the call as it read before'; 0 by the template 'total and deterministic' (their statements: YtbemciakckdjlaaTotals.lean).
  GIVEN WITH THE SEED: the statements are not yours to turn. If you find one false, say at which input.
  Laid BY PROGRAM, IN A SANDBOX (cutbox-rows.mjs): the forced cells as the released guide's own fill.sh prints them over the translation 6bed73f5b1b86d08… (all of the seat's roots in one cut). By AI agents, Wed Nov 11 2026. No macro, syntax, notation, axiom, sorry.
-/
import Derived.Test.YtbemciakckdjlaaChecked
import GoSem.Claim
import GoSem.ClaimJoined
import GoSem.ClaimMapViews
import Derived.JoinedTies
import Derived.KernelRfl
namespace Go.Proofs.Ytbemciakckdjlaa
/- THE CELL 'sum', in the pinned program and in every row, IS THE sha256 OF THE DUMP (.gsa) THAT YtbemciakckdjlaaProg.lean LOADS. Nothing in Lean hashes anything: it is a label: what it is worth is what the hold of that sum in a sandbox is worth. -/
noncomputable def Try.pinned : Pinned := { name := "ytbemciakckdjlaa", sum := "6bed73f5b1b86d08b940f672539d33a8dcf2e5195f3f5373bf9a0e8b6c0100c7", checked := Try.checked }
namespace Rows
def none {H : Type} : Left H := { results := [], args := [] }

/-- 'penumbralaw10.BoxesLay': WHATEVER THE INPUT: true; the input reads as it did. -/
def boxesLaySpec : ChangeSpec := { name := "boxesLay", fn := fun _ => fun
  | [d1, d2] => { results := [.lit (.bool true)], args := [d1, d2] }
  | _ => none }
def boxesLayRow : OpenClaim := { program := "ytbemciakckdjlaa", sum := "6bed73f5b1b86d08b940f672539d33a8dcf2e5195f3f5373bf9a0e8b6c0100c7", func := "penumbra/penumbralaw10.BoxesLay", spec := "boxesLay", named := ["math/bits.overflowError"], apart := false }
def BoxesLaySaid : Prop := boxesLayRow.holds Try.pinned (OpenSpec.ofChange boxesLaySpec)

/-- ITS FALSE NEIGHBOUR: 'it returns false'. Refute it at one input. -/
def boxesLayWrong : ChangeSpec := { name := "boxesLay", fn := fun _ => fun
  | [d1, d2] => { results := [.lit (.bool false)], args := [d1, d2] }
  | _ => none }
def BoxesLayWrongFalsely : Prop := boxesLayRow.holds Try.pinned (OpenSpec.ofChange boxesLayWrong)

/-- 'penumbralaw10.BoxesClip': WHATEVER THE INPUT: true; the input reads as it did. -/
def boxesClipSpec : ChangeSpec := { name := "boxesClip", fn := fun _ => fun
  | [d1, d2, d3] => { results := [.lit (.bool true)], args := [d1, d2, d3] }
  | _ => none }
def boxesClipRow : OpenClaim := { program := "ytbemciakckdjlaa", sum := "6bed73f5b1b86d08b940f672539d33a8dcf2e5195f3f5373bf9a0e8b6c0100c7", func := "penumbra/penumbralaw10.BoxesClip", spec := "boxesClip", named := ["math/bits.overflowError"], apart := false }
def BoxesClipSaid : Prop := boxesClipRow.holds Try.pinned (OpenSpec.ofChange boxesClipSpec)

/-- ITS FALSE NEIGHBOUR: 'it returns false'. Refute it at one input. -/
def boxesClipWrong : ChangeSpec := { name := "boxesClip", fn := fun _ => fun
  | [d1, d2, d3] => { results := [.lit (.bool false)], args := [d1, d2, d3] }
  | _ => none }
def BoxesClipWrongFalsely : Prop := boxesClipRow.holds Try.pinned (OpenSpec.ofChange boxesClipWrong)

/-- 'penumbralaw10.BoxesHold': WHATEVER THE INPUT: true; the input reads as it did. -/
def boxesHoldSpec : ChangeSpec := { name := "boxesHold", fn := fun _ => fun
  | [d1, d2] => { results := [.lit (.bool true)], args := [d1, d2] }
  | _ => none }
def boxesHoldRow : OpenClaim := { program := "ytbemciakckdjlaa", sum := "6bed73f5b1b86d08b940f672539d33a8dcf2e5195f3f5373bf9a0e8b6c0100c7", func := "penumbra/penumbralaw10.BoxesHold", spec := "boxesHold", named := ["math/bits.overflowError"], apart := false }
def BoxesHoldSaid : Prop := boxesHoldRow.holds Try.pinned (OpenSpec.ofChange boxesHoldSpec)

/-- ITS FALSE NEIGHBOUR: 'it returns false'. Refute it at one input. -/
def boxesHoldWrong : ChangeSpec := { name := "boxesHold", fn := fun _ => fun
  | [d1, d2] => { results := [.lit (.bool false)], args := [d1, d2] }
  | _ => none }
def BoxesHoldWrongFalsely : Prop := boxesHoldRow.holds Try.pinned (OpenSpec.ofChange boxesHoldWrong)

/-- 'penumbralaw10.BoxesWithin': WHATEVER THE INPUT: true; the input reads as it did. -/
def boxesWithinSpec : ChangeSpec := { name := "boxesWithin", fn := fun _ => fun
  | [d1, d2, d3] => { results := [.lit (.bool true)], args := [d1, d2, d3] }
  | _ => none }
def boxesWithinRow : OpenClaim := { program := "ytbemciakckdjlaa", sum := "6bed73f5b1b86d08b940f672539d33a8dcf2e5195f3f5373bf9a0e8b6c0100c7", func := "penumbra/penumbralaw10.BoxesWithin", spec := "boxesWithin", named := ["math/bits.overflowError"], apart := false }
def BoxesWithinSaid : Prop := boxesWithinRow.holds Try.pinned (OpenSpec.ofChange boxesWithinSpec)

/-- ITS FALSE NEIGHBOUR: 'it returns false'. Refute it at one input. -/
def boxesWithinWrong : ChangeSpec := { name := "boxesWithin", fn := fun _ => fun
  | [d1, d2, d3] => { results := [.lit (.bool false)], args := [d1, d2, d3] }
  | _ => none }
def BoxesWithinWrongFalsely : Prop := boxesWithinRow.holds Try.pinned (OpenSpec.ofChange boxesWithinWrong)

/-- 'penumbralaw10.BoxesMeet': WHATEVER THE INPUT: true; the input reads as it did. -/
def boxesMeetSpec : ChangeSpec := { name := "boxesMeet", fn := fun _ => fun
  | [d1, d2, d3] => { results := [.lit (.bool true)], args := [d1, d2, d3] }
  | _ => none }
def boxesMeetRow : OpenClaim := { program := "ytbemciakckdjlaa", sum := "6bed73f5b1b86d08b940f672539d33a8dcf2e5195f3f5373bf9a0e8b6c0100c7", func := "penumbra/penumbralaw10.BoxesMeet", spec := "boxesMeet", named := ["math/bits.overflowError"], apart := false }
def BoxesMeetSaid : Prop := boxesMeetRow.holds Try.pinned (OpenSpec.ofChange boxesMeetSpec)

/-- ITS FALSE NEIGHBOUR: 'it returns false'. Refute it at one input. -/
def boxesMeetWrong : ChangeSpec := { name := "boxesMeet", fn := fun _ => fun
  | [d1, d2, d3] => { results := [.lit (.bool false)], args := [d1, d2, d3] }
  | _ => none }
def BoxesMeetWrongFalsely : Prop := boxesMeetRow.holds Try.pinned (OpenSpec.ofChange boxesMeetWrong)

/-- 'penumbralaw12.TraceMore': WHATEVER THE INPUT: true; the input reads as it did. -/
def traceMoreSpec : ChangeSpec := { name := "traceMore", fn := fun _ => fun
  | [d1, d2, d3] => { results := [.lit (.bool true)], args := [d1, d2, d3] }
  | _ => none }
def traceMoreRow : OpenClaim := { program := "ytbemciakckdjlaa", sum := "6bed73f5b1b86d08b940f672539d33a8dcf2e5195f3f5373bf9a0e8b6c0100c7", func := "penumbra/penumbralaw12.TraceMore", spec := "traceMore", recurses := true, named := ["math/bits.overflowError"], apart := false }
def TraceMoreSaid : Prop := traceMoreRow.holds Try.pinned (OpenSpec.ofChange traceMoreSpec)

/-- ITS FALSE NEIGHBOUR: 'it returns false'. Refute it at one input. -/
def traceMoreWrong : ChangeSpec := { name := "traceMore", fn := fun _ => fun
  | [d1, d2, d3] => { results := [.lit (.bool false)], args := [d1, d2, d3] }
  | _ => none }
def TraceMoreWrongFalsely : Prop := traceMoreRow.holds Try.pinned (OpenSpec.ofChange traceMoreWrong)

/-- 'penumbralaw12.TraceFirst': WHATEVER THE INPUT: true; the input reads as it did. -/
def traceFirstSpec : ChangeSpec := { name := "traceFirst", fn := fun _ => fun
  | [d1, d2, d3] => { results := [.lit (.bool true)], args := [d1, d2, d3] }
  | _ => none }
def traceFirstRow : OpenClaim := { program := "ytbemciakckdjlaa", sum := "6bed73f5b1b86d08b940f672539d33a8dcf2e5195f3f5373bf9a0e8b6c0100c7", func := "penumbra/penumbralaw12.TraceFirst", spec := "traceFirst", recurses := true, named := ["math/bits.overflowError"], apart := false }
def TraceFirstSaid : Prop := traceFirstRow.holds Try.pinned (OpenSpec.ofChange traceFirstSpec)

/-- ITS FALSE NEIGHBOUR: 'it returns false'. Refute it at one input. -/
def traceFirstWrong : ChangeSpec := { name := "traceFirst", fn := fun _ => fun
  | [d1, d2, d3] => { results := [.lit (.bool false)], args := [d1, d2, d3] }
  | _ => none }
def TraceFirstWrongFalsely : Prop := traceFirstRow.holds Try.pinned (OpenSpec.ofChange traceFirstWrong)

/-- 'penumbralaw12.TraceTrees': WHATEVER THE INPUT: true; the input reads as it did. -/
def traceTreesSpec : ChangeSpec := { name := "traceTrees", fn := fun _ => fun
  | [d1, d2, d3] => { results := [.lit (.bool true)], args := [d1, d2, d3] }
  | _ => none }
def traceTreesRow : OpenClaim := { program := "ytbemciakckdjlaa", sum := "6bed73f5b1b86d08b940f672539d33a8dcf2e5195f3f5373bf9a0e8b6c0100c7", func := "penumbra/penumbralaw12.TraceTrees", spec := "traceTrees", recurses := true, named := ["math/bits.overflowError"], apart := false }
def TraceTreesSaid : Prop := traceTreesRow.holds Try.pinned (OpenSpec.ofChange traceTreesSpec)

/-- ITS FALSE NEIGHBOUR: 'it returns false'. Refute it at one input. -/
def traceTreesWrong : ChangeSpec := { name := "traceTrees", fn := fun _ => fun
  | [d1, d2, d3] => { results := [.lit (.bool false)], args := [d1, d2, d3] }
  | _ => none }
def TraceTreesWrongFalsely : Prop := traceTreesRow.holds Try.pinned (OpenSpec.ofChange traceTreesWrong)

/- THE SECOND FORM. 'bulk': how many values and letters a reading holds, each counted each time it is reached (what is shared counts as often as it is met; a slice's spare places count too). A statement '..UptoSaid' is the law's where the arguments, and the package variables that the reading takes, are together of bulk at most 1048576: NARROWER than '..Said'. Prove '..Said' where nothing that the law and all that it calls make is longer than what came in: it says more and counts as full. Else prove '..UptoSaid'. A law counts once. -/
mutual
def uptoBulk {H : Type} : DataW H → Nat
  | .lit (.string bytes) => bytes.length + 1
  | .lit _ => 1
  | .nil => 1
  | .ptr d => uptoBulk d + 1
  | .slice elems spare => uptoBulkAll elems + uptoBulkAll spare + 1
  | .agg parts => uptoBulkAll parts + 1
  | .iface _ d => uptoBulk d + 1
  | .map entries => uptoBulkEntries entries + 1
  | .held _ => 1
def uptoBulkAll {H : Type} : List (DataW H) → Nat
  | [] => 0
  | d :: r => uptoBulk d + uptoBulkAll r
def uptoBulkEntries {H : Type} : List (Lit × DataW H) → Nat
  | [] => 0
  | x :: r => uptoBulkEntry x + uptoBulkEntries r
def uptoBulkEntry {H : Type} : Lit × DataW H → Nat
  | (.string bytes, d) => bytes.length + uptoBulk d + 1
  | (_, d) => uptoBulk d + 1
 end
def uptoSmall : (H : Type) → List (DataW H) → Bool := fun _ ds => decide (uptoBulkAll ds ≤ 1048576)
def OpenSpec.upto (s : _root_.Go.ChangeSpec) : _root_.Go.OpenSpec := { _root_.Go.OpenSpec.ofChange s with cond := some uptoSmall }

/-- 'penumbralaw10.BoxesLay', WHERE WHAT IT READS IS OF BULK AT MOST 1048576: true; the input reads as it did. -/
def boxesLayUptoRow : OpenClaim := { program := "ytbemciakckdjlaa", sum := "6bed73f5b1b86d08b940f672539d33a8dcf2e5195f3f5373bf9a0e8b6c0100c7", func := "penumbra/penumbralaw10.BoxesLay", spec := "boxesLay", named := ["math/bits.overflowError"], apart := false, narrowed := true }
def BoxesLayUptoSaid : Prop := boxesLayUptoRow.holds Try.pinned (OpenSpec.upto boxesLaySpec)

/-- 'penumbralaw10.BoxesClip', WHERE WHAT IT READS IS OF BULK AT MOST 1048576: true; the input reads as it did. -/
def boxesClipUptoRow : OpenClaim := { program := "ytbemciakckdjlaa", sum := "6bed73f5b1b86d08b940f672539d33a8dcf2e5195f3f5373bf9a0e8b6c0100c7", func := "penumbra/penumbralaw10.BoxesClip", spec := "boxesClip", named := ["math/bits.overflowError"], apart := false, narrowed := true }
def BoxesClipUptoSaid : Prop := boxesClipUptoRow.holds Try.pinned (OpenSpec.upto boxesClipSpec)

/-- 'penumbralaw10.BoxesHold', WHERE WHAT IT READS IS OF BULK AT MOST 1048576: true; the input reads as it did. -/
def boxesHoldUptoRow : OpenClaim := { program := "ytbemciakckdjlaa", sum := "6bed73f5b1b86d08b940f672539d33a8dcf2e5195f3f5373bf9a0e8b6c0100c7", func := "penumbra/penumbralaw10.BoxesHold", spec := "boxesHold", named := ["math/bits.overflowError"], apart := false, narrowed := true }
def BoxesHoldUptoSaid : Prop := boxesHoldUptoRow.holds Try.pinned (OpenSpec.upto boxesHoldSpec)

/-- 'penumbralaw10.BoxesWithin', WHERE WHAT IT READS IS OF BULK AT MOST 1048576: true; the input reads as it did. -/
def boxesWithinUptoRow : OpenClaim := { program := "ytbemciakckdjlaa", sum := "6bed73f5b1b86d08b940f672539d33a8dcf2e5195f3f5373bf9a0e8b6c0100c7", func := "penumbra/penumbralaw10.BoxesWithin", spec := "boxesWithin", named := ["math/bits.overflowError"], apart := false, narrowed := true }
def BoxesWithinUptoSaid : Prop := boxesWithinUptoRow.holds Try.pinned (OpenSpec.upto boxesWithinSpec)

/-- 'penumbralaw10.BoxesMeet', WHERE WHAT IT READS IS OF BULK AT MOST 1048576: true; the input reads as it did. -/
def boxesMeetUptoRow : OpenClaim := { program := "ytbemciakckdjlaa", sum := "6bed73f5b1b86d08b940f672539d33a8dcf2e5195f3f5373bf9a0e8b6c0100c7", func := "penumbra/penumbralaw10.BoxesMeet", spec := "boxesMeet", named := ["math/bits.overflowError"], apart := false, narrowed := true }
def BoxesMeetUptoSaid : Prop := boxesMeetUptoRow.holds Try.pinned (OpenSpec.upto boxesMeetSpec)

/-- 'penumbralaw12.TraceMore', WHERE WHAT IT READS IS OF BULK AT MOST 1048576: true; the input reads as it did. -/
def traceMoreUptoRow : OpenClaim := { program := "ytbemciakckdjlaa", sum := "6bed73f5b1b86d08b940f672539d33a8dcf2e5195f3f5373bf9a0e8b6c0100c7", func := "penumbra/penumbralaw12.TraceMore", spec := "traceMore", recurses := true, named := ["math/bits.overflowError"], apart := false, narrowed := true }
def TraceMoreUptoSaid : Prop := traceMoreUptoRow.holds Try.pinned (OpenSpec.upto traceMoreSpec)

/-- 'penumbralaw12.TraceFirst', WHERE WHAT IT READS IS OF BULK AT MOST 1048576: true; the input reads as it did. -/
def traceFirstUptoRow : OpenClaim := { program := "ytbemciakckdjlaa", sum := "6bed73f5b1b86d08b940f672539d33a8dcf2e5195f3f5373bf9a0e8b6c0100c7", func := "penumbra/penumbralaw12.TraceFirst", spec := "traceFirst", recurses := true, named := ["math/bits.overflowError"], apart := false, narrowed := true }
def TraceFirstUptoSaid : Prop := traceFirstUptoRow.holds Try.pinned (OpenSpec.upto traceFirstSpec)

/-- 'penumbralaw12.TraceTrees', WHERE WHAT IT READS IS OF BULK AT MOST 1048576: true; the input reads as it did. -/
def traceTreesUptoRow : OpenClaim := { program := "ytbemciakckdjlaa", sum := "6bed73f5b1b86d08b940f672539d33a8dcf2e5195f3f5373bf9a0e8b6c0100c7", func := "penumbra/penumbralaw12.TraceTrees", spec := "traceTrees", recurses := true, named := ["math/bits.overflowError"], apart := false, narrowed := true }
def TraceTreesUptoSaid : Prop := traceTreesUptoRow.holds Try.pinned (OpenSpec.upto traceTreesSpec)

end Rows
end Go.Proofs.Ytbemciakckdjlaa
