/-
  No cell of these rows narrows 'for every input' (looked for: loops, veiled, ifaces, maps, wideKeys, modest, calm, conditions, laid).
  DERIVED. THE GIVEN ROWS OF THIS SEAT. 5 by the template 'for every input the law returns true; each argument reads behind the call as it read before'; 0 by the template 'total and deterministic' (their statements: YtjoimiljaljgcaaGreatTotals.lean).
  GIVEN WITH THE SEED: the statements are not yours to turn. If you find one false, say at which input.
  Laid BY PROGRAM, IN A SANDBOX (cutbox-rows.mjs): the forced cells as the released guide's own fill.sh prints them over the translation 86266e2177bba3ca… (all of the seat's roots in one cut). By AI agents, Wed Nov 11 2026. No macro, syntax, notation, axiom, sorry.
-/
import Derived.Test.YtjoimiljaljgcaaGreatChecked
import GoSem.Claim
import GoSem.ClaimJoined
import GoSem.ClaimMapViews
import Derived.JoinedTies
import Derived.KernelRfl
namespace Go.Proofs.YtjoimiljaljgcaaGreat
/- THE CELL 'sum', in the pinned program and in every row, IS THE sha256 OF THE DUMP (.gsa) THAT YtjoimiljaljgcaaGreatProg.lean LOADS. Nothing in Lean hashes anything: it is a label: what it is worth is what the hold of that sum in a sandbox is worth. -/
noncomputable def Tryz.pinned : Pinned := { name := "ytjoimiljaljgcaagreat", sum := "86266e2177bba3cab0c24f88cbeddef69078a2c696345046d9a763e0fecf7d1d", checked := Tryz.checked }
namespace Rows
def none {H : Type} : Left H := { results := [], args := [] }

/-- 'penumbralaw15.ChainFollows': WHATEVER THE INPUT: true; the input reads as it did. -/
def chainFollowsSpec : ChangeSpec := { name := "chainFollows", fn := fun _ => fun
  | [d1, d2, d3] => { results := [.lit (.bool true)], args := [d1, d2, d3] }
  | _ => none }
def chainFollowsRow : OpenClaim := { program := "ytjoimiljaljgcaagreat", sum := "86266e2177bba3cab0c24f88cbeddef69078a2c696345046d9a763e0fecf7d1d", func := "penumbra/penumbralaw15.ChainFollows", spec := "chainFollows", unfollowed := true, recurses := true, named := ["math/bits.overflowError"], apart := false }
def ChainFollowsSaid : Prop := chainFollowsRow.holds Tryz.pinned (OpenSpec.ofChange chainFollowsSpec)

/-- ITS FALSE NEIGHBOUR: 'it returns false'. Refute it at one input. -/
def chainFollowsWrong : ChangeSpec := { name := "chainFollows", fn := fun _ => fun
  | [d1, d2, d3] => { results := [.lit (.bool false)], args := [d1, d2, d3] }
  | _ => none }
def ChainFollowsWrongFalsely : Prop := chainFollowsRow.holds Tryz.pinned (OpenSpec.ofChange chainFollowsWrong)

/-- 'penumbralaw15.ChainEnds': WHATEVER THE INPUT: true; the input reads as it did. -/
def chainEndsSpec : ChangeSpec := { name := "chainEnds", fn := fun _ => fun
  | [d1, d2, d3] => { results := [.lit (.bool true)], args := [d1, d2, d3] }
  | _ => none }
def chainEndsRow : OpenClaim := { program := "ytjoimiljaljgcaagreat", sum := "86266e2177bba3cab0c24f88cbeddef69078a2c696345046d9a763e0fecf7d1d", func := "penumbra/penumbralaw15.ChainEnds", spec := "chainEnds", unfollowed := true, recurses := true, named := ["math/bits.overflowError"], apart := false }
def ChainEndsSaid : Prop := chainEndsRow.holds Tryz.pinned (OpenSpec.ofChange chainEndsSpec)

/-- ITS FALSE NEIGHBOUR: 'it returns false'. Refute it at one input. -/
def chainEndsWrong : ChangeSpec := { name := "chainEnds", fn := fun _ => fun
  | [d1, d2, d3] => { results := [.lit (.bool false)], args := [d1, d2, d3] }
  | _ => none }
def ChainEndsWrongFalsely : Prop := chainEndsRow.holds Tryz.pinned (OpenSpec.ofChange chainEndsWrong)

/-- 'penumbralaw15.ChainPlain': WHATEVER THE INPUT: true; the input reads as it did. -/
def chainPlainSpec : ChangeSpec := { name := "chainPlain", fn := fun _ => fun
  | [d1, d2, d3] => { results := [.lit (.bool true)], args := [d1, d2, d3] }
  | _ => none }
def chainPlainRow : OpenClaim := { program := "ytjoimiljaljgcaagreat", sum := "86266e2177bba3cab0c24f88cbeddef69078a2c696345046d9a763e0fecf7d1d", func := "penumbra/penumbralaw15.ChainPlain", spec := "chainPlain", unfollowed := true, recurses := true, named := ["math/bits.overflowError"], apart := false }
def ChainPlainSaid : Prop := chainPlainRow.holds Tryz.pinned (OpenSpec.ofChange chainPlainSpec)

/-- ITS FALSE NEIGHBOUR: 'it returns false'. Refute it at one input. -/
def chainPlainWrong : ChangeSpec := { name := "chainPlain", fn := fun _ => fun
  | [d1, d2, d3] => { results := [.lit (.bool false)], args := [d1, d2, d3] }
  | _ => none }
def ChainPlainWrongFalsely : Prop := chainPlainRow.holds Tryz.pinned (OpenSpec.ofChange chainPlainWrong)

/-- 'penumbralaw15.ChainStraight': WHATEVER THE INPUT: true; the input reads as it did. -/
def chainStraightSpec : ChangeSpec := { name := "chainStraight", fn := fun _ => fun
  | [d1, d2, d3] => { results := [.lit (.bool true)], args := [d1, d2, d3] }
  | _ => none }
def chainStraightRow : OpenClaim := { program := "ytjoimiljaljgcaagreat", sum := "86266e2177bba3cab0c24f88cbeddef69078a2c696345046d9a763e0fecf7d1d", func := "penumbra/penumbralaw15.ChainStraight", spec := "chainStraight", unfollowed := true, recurses := true, named := ["math/bits.overflowError"], apart := false }
def ChainStraightSaid : Prop := chainStraightRow.holds Tryz.pinned (OpenSpec.ofChange chainStraightSpec)

/-- ITS FALSE NEIGHBOUR: 'it returns false'. Refute it at one input. -/
def chainStraightWrong : ChangeSpec := { name := "chainStraight", fn := fun _ => fun
  | [d1, d2, d3] => { results := [.lit (.bool false)], args := [d1, d2, d3] }
  | _ => none }
def ChainStraightWrongFalsely : Prop := chainStraightRow.holds Tryz.pinned (OpenSpec.ofChange chainStraightWrong)

/-- 'penumbralaw15.ChainBack': WHATEVER THE INPUT: true; the input reads as it did. -/
def chainBackSpec : ChangeSpec := { name := "chainBack", fn := fun _ => fun
  | [d] => { results := [.lit (.bool true)], args := [d] }
  | _ => none }
def chainBackRow : OpenClaim := { program := "ytjoimiljaljgcaagreat", sum := "86266e2177bba3cab0c24f88cbeddef69078a2c696345046d9a763e0fecf7d1d", func := "penumbra/penumbralaw15.ChainBack", spec := "chainBack", unfollowed := true, recurses := true, named := ["math/bits.overflowError"], apart := false }
def ChainBackSaid : Prop := chainBackRow.holds Tryz.pinned (OpenSpec.ofChange chainBackSpec)

/-- ITS FALSE NEIGHBOUR: 'it returns false'. Refute it at one input. -/
def chainBackWrong : ChangeSpec := { name := "chainBack", fn := fun _ => fun
  | [d] => { results := [.lit (.bool false)], args := [d] }
  | _ => none }
def ChainBackWrongFalsely : Prop := chainBackRow.holds Tryz.pinned (OpenSpec.ofChange chainBackWrong)

/- THE SECOND FORM. 'bulk': how many values and letters a reading holds, each counted each time it is reached (what is shared counts as often as it is met; a slice's spare places count too). A statement '..UptoSaid' is the law's where the arguments, and the package variables that the reading takes, are together of bulk at most 1048576: NARROWER than '..Said'. Prove '..Said' where nothing that the law and all that it calls make is longer than what came in: it says more and counts as full. Else prove '..UptoSaid'. A law counts once. -/
mutual
def uptoBulk {H : Type} : DataW H → Nat
  | .lit (.string bytes) => bytes.length + 1
  | .lit _ => 1
  | .nil => 1
  | .ptr d => uptoBulk d + 1
  | .slice elems spare => uptoBulkAll elems + uptoBulkAll spare + 1
  | .agg parts => uptoBulkAll parts + 1
  | .iface _ d => uptoBulk d + 1
  | .map entries => uptoBulkEntries entries + 1
  | .held _ => 1
def uptoBulkAll {H : Type} : List (DataW H) → Nat
  | [] => 0
  | d :: r => uptoBulk d + uptoBulkAll r
def uptoBulkEntries {H : Type} : List (Lit × DataW H) → Nat
  | [] => 0
  | x :: r => uptoBulkEntry x + uptoBulkEntries r
def uptoBulkEntry {H : Type} : Lit × DataW H → Nat
  | (.string bytes, d) => bytes.length + uptoBulk d + 1
  | (_, d) => uptoBulk d + 1
 end
def uptoSmall : (H : Type) → List (DataW H) → Bool := fun _ ds => decide (uptoBulkAll ds ≤ 1048576)
def OpenSpec.upto (s : _root_.Go.ChangeSpec) : _root_.Go.OpenSpec := { _root_.Go.OpenSpec.ofChange s with cond := some uptoSmall }

/-- 'penumbralaw15.ChainFollows', WHERE WHAT IT READS IS OF BULK AT MOST 1048576: true; the input reads as it did. -/
def chainFollowsUptoRow : OpenClaim := { program := "ytjoimiljaljgcaagreat", sum := "86266e2177bba3cab0c24f88cbeddef69078a2c696345046d9a763e0fecf7d1d", func := "penumbra/penumbralaw15.ChainFollows", spec := "chainFollows", unfollowed := true, recurses := true, named := ["math/bits.overflowError"], apart := false, narrowed := true }
def ChainFollowsUptoSaid : Prop := chainFollowsUptoRow.holds Tryz.pinned (OpenSpec.upto chainFollowsSpec)

/-- 'penumbralaw15.ChainEnds', WHERE WHAT IT READS IS OF BULK AT MOST 1048576: true; the input reads as it did. -/
def chainEndsUptoRow : OpenClaim := { program := "ytjoimiljaljgcaagreat", sum := "86266e2177bba3cab0c24f88cbeddef69078a2c696345046d9a763e0fecf7d1d", func := "penumbra/penumbralaw15.ChainEnds", spec := "chainEnds", unfollowed := true, recurses := true, named := ["math/bits.overflowError"], apart := false, narrowed := true }
def ChainEndsUptoSaid : Prop := chainEndsUptoRow.holds Tryz.pinned (OpenSpec.upto chainEndsSpec)

/-- 'penumbralaw15.ChainPlain', WHERE WHAT IT READS IS OF BULK AT MOST 1048576: true; the input reads as it did. -/
def chainPlainUptoRow : OpenClaim := { program := "ytjoimiljaljgcaagreat", sum := "86266e2177bba3cab0c24f88cbeddef69078a2c696345046d9a763e0fecf7d1d", func := "penumbra/penumbralaw15.ChainPlain", spec := "chainPlain", unfollowed := true, recurses := true, named := ["math/bits.overflowError"], apart := false, narrowed := true }
def ChainPlainUptoSaid : Prop := chainPlainUptoRow.holds Tryz.pinned (OpenSpec.upto chainPlainSpec)

/-- 'penumbralaw15.ChainStraight', WHERE WHAT IT READS IS OF BULK AT MOST 1048576: true; the input reads as it did. -/
def chainStraightUptoRow : OpenClaim := { program := "ytjoimiljaljgcaagreat", sum := "86266e2177bba3cab0c24f88cbeddef69078a2c696345046d9a763e0fecf7d1d", func := "penumbra/penumbralaw15.ChainStraight", spec := "chainStraight", unfollowed := true, recurses := true, named := ["math/bits.overflowError"], apart := false, narrowed := true }
def ChainStraightUptoSaid : Prop := chainStraightUptoRow.holds Tryz.pinned (OpenSpec.upto chainStraightSpec)

/-- 'penumbralaw15.ChainBack', WHERE WHAT IT READS IS OF BULK AT MOST 1048576: true; the input reads as it did. -/
def chainBackUptoRow : OpenClaim := { program := "ytjoimiljaljgcaagreat", sum := "86266e2177bba3cab0c24f88cbeddef69078a2c696345046d9a763e0fecf7d1d", func := "penumbra/penumbralaw15.ChainBack", spec := "chainBack", unfollowed := true, recurses := true, named := ["math/bits.overflowError"], apart := false, narrowed := true }
def ChainBackUptoSaid : Prop := chainBackUptoRow.holds Tryz.pinned (OpenSpec.upto chainBackSpec)

end Rows
end Go.Proofs.YtjoimiljaljgcaaGreat
