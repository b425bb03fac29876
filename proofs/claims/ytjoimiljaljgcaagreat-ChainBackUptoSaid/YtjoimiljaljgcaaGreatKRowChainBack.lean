/-
  The law ChainBack: whatever scene, point, direction and bin, of bulk at most 1048576 together, it answers true, and leaves its argument as it is.
-/
import Derived.Test.YtjoimiljaljgcaaGreatRows
import Derived.Test.YtjoimiljaljgcaaGreatMcd
import Derived.Test.YtjoimiljaljgcaaGreatKOpens4
import Derived.OpenShut
import Derived.JoinedCond
namespace Go.Proofs.YtjoimiljaljgcaaGreat.chainBack
open Go.ChangeShapes Go.WideShapes Go.ChangeAt Go.RowKit Go.K
set_option maxRecDepth 100000
theorem le_all {H : Type} {d : DataW H} : ∀ {l : List (DataW H)}, d ∈ l → Rows.uptoBulk d ≤ Rows.uptoBulkAll l
 | [], h => by cases h
 | x :: r, h => by
  simp only [Rows.uptoBulkAll]
  rcases List.mem_cons.1 h with rfl | h
  ·omega
  ·have := le_all h; omega
theorem one_le {H : Type} (d : DataW H) : 1 ≤ Rows.uptoBulk d := by
 cases d with
 | lit l => cases l <;> simp [Rows.uptoBulk]
 | nil => simp [Rows.uptoBulk]
 | ptr d => simp [Rows.uptoBulk]
 | slice elems spare => simp [Rows.uptoBulk]
 | agg parts => simp [Rows.uptoBulk]
 | iface t d => simp [Rows.uptoBulk]
 | map entries => simp [Rows.uptoBulk]
 | held h => simp [Rows.uptoBulk]
theorem len_all {H : Type} : ∀ (l : List (DataW H)), l.length ≤ Rows.uptoBulkAll l
 | [] => Nat.zero_le _
 | x :: r => by
  have := one_le x
  have := len_all r
  simp only [Rows.uptoBulkAll, List.length_cons]
  omega
def bulk (H : Type) : Bulk H where
 f := Rows.uptoBulk
 el := fun elems spare d h => by have := le_all h; simp only [Rows.uptoBulk]; omega
 ln := fun elems spare => by have := len_all elems; simp only [Rows.uptoBulk]; omega
 pt := fun parts d h => by have := le_all h; simp only [Rows.uptoBulk]; omega
theorem own : ownKnob Tryz.prog.godebug = none := by kernel_rfl
theorem laid : laidOutB Tryz.prog = true := by kernel_rfl
theorem contract (H : Type) (enc : TypeId × Value → H) (W : World) (base : Nat) (args : Array Value) (ds gs : List (DataW H)) (before : List MemPlace)
  (hval : ∀ (j : Nat) t v, Tryz.f7.params[j]? = some t → args[j]? = some v → Value.okWide Tryz.prog W .any base t v)
  (hW : DataW.Whole enc Tryz.prog Tryz.f7.params.toList Rows.chainBackSpec.vars false W args.toList ds gs before) (hk : Rows.uptoSmall H (ds ++ gs) = true) :
  Calls Tryz.prog 7 args W fun e W' => ∃ v, e = .returned v ∧ Rows.chainBackSpec.post enc Tryz.prog Tryz.f7 false true false false W args v W' := by
 have hW' := hW
 obtain ⟨p, q, hA0, hV, rfl, hfz, hnd⟩ := hW
 have hA : DataW.TrodAll enc Tryz.prog W 0 (fun _ => true) true Tryz.f7.params.toList args.toList ds p := hA0
 obtain rfl : gs = [] := by
  cases gs with
  | nil => rfl
  | cons g gs => exact hV.elim
 have hval' := hval
 rw [Tryz.params7] at hA hval'
 obtain ⟨v0, vs0, d0, ds0, p0, q0, hargs, rfl, rfl, h0, r0⟩ := trodAll_cons hA
 obtain ⟨rfl, rfl, rfl⟩ := trodAll_nil r0
 obtain rfl : args = #[v0] := by cases args; simp_all
 obtain ⟨f0, h0⟩ := h0
 obtain ⟨a0, ok0, cl0, rp0⟩ := (S.opens_start (bulk H) enc W).read f0 _ _ _ h0
 have hbd : Rows.uptoBulkAll ([d0] ++ []) ≤ 1048576 := of_decide_eq_true hk
 have k0 := (S.opens_start (bulk H) enc W).mono _ _ a0 (Nat.le_trans (le_all (d := d0) (by simp)) hbd) ok0
 have good := S.chainBack_good a0 k0
 refine row_contract (P := Tryz.prog) good rfl (fun j hj => ?_) hW' rfl laid (fun t ht => ?_) rfl rfl rfl (tb := S.T.bool) rfl (S.und_of rfl rfl)
 ·have : j = 0 := by simp at hj; omega
  subst this
  ·exact repD_agg (t := S.T.penumbralaw15_Start) (.inl ⟨_, S.und_of rfl rfl⟩) ⟨base, hval' 0 _ _ rfl rfl⟩ cl0 ((S.opens_start (bulk H) enc W).len a0) rp0
 ·rw [Tryz.params7] at ht
  simp only [List.mem_cons, List.not_mem_nil, or_false] at ht
  subst ht
  ·exact ⟨by kernel_rfl, of_decide_eq_true (by kernel_rfl)⟩
theorem lifted (os : Os) (started : os.Started) (H : Type) (enc : TypeId × Value → H) (F : Stop.Interp) :
  ReturnsInHanded {} Tryz.checked os 7 .any ((Rows.OpenSpec.upto Rows.chainBackSpec).pre6 enc Tryz.prog Tryz.f7 Rows.chainBackUptoRow.domain false) (((Rows.OpenSpec.upto Rows.chainBackSpec).at F).post enc Tryz.prog Tryz.f7 false true false false) := by
 refine returnsInHanded_of_cond (C := Tryz.checked) (s := Rows.OpenSpec.upto Rows.chainBackSpec) (k := Rows.uptoSmall) rfl own started (by kernel_rfl) Tryz.func7
  (OpenSpec.witness (enc := enc) (C := Tryz.checked) (s := Rows.OpenSpec.upto Rows.chainBackSpec) (k := Rows.uptoSmall) rfl false ⟨#[], #[.agg #[.slice none 0 0, .slice none 0 0, .slice none 0 0, .bool false, .slice none 0 0, .slice none 0 0, .bool false, .slice none 0 0, .slice none 0 0, .bool false, .slice none 0 0, .slice none 0 0, .bool false, .slice none 0 0, .slice none 0 0, .bool false, .slice none 0 0, .slice none 0 0, .bool false, .slice none 0 0, .slice none 0 0, .int .i64 0, .int .i64 0, .bool false, .slice none 0 0, .slice none 0 0, .int .i64 0, .bool false, .slice none 0 0, .slice none 0 0, .bool false, .slice none 0 0, .slice none 0 0, .bool false, .slice none 0 0, .slice none 0 0, .bool false, .slice none 0 0, .slice none 0 0, .bool false, .slice none 0 0, .slice none 0 0, .int .i64 0]], []⟩ 8 (by kernel_rfl) (by kernel_rfl) (by kernel_rfl)
   (x := ([.agg [.agg [.nil, .nil, .nil, .agg [.agg [.agg [.lit (.bool false), .nil, .nil], .agg [.lit (.bool false), .nil, .nil], .agg [.lit (.bool false), .nil, .nil]], .agg [.agg [.lit (.bool false), .nil, .nil], .agg [.lit (.bool false), .nil, .nil], .agg [.lit (.bool false), .nil, .nil]], .lit (.int .i64 0), .lit (.int .i64 0), .agg [.lit (.bool false), .nil, .nil]]], .lit (.int .i64 0), .agg [.lit (.bool false), .nil, .nil], .agg [.lit (.bool false), .nil, .nil], .agg [.agg [.lit (.bool false), .nil, .nil], .agg [.lit (.bool false), .nil, .nil], .agg [.lit (.bool false), .nil, .nil]], .lit (.int .i64 0)]], [], [])) (by kernel_rfl) rfl (by kernel_rfl)) ?_
 intro W base args ds gs before hval hW _ hk _
 exact contract H enc W base args ds gs before hval hW hk
theorem over : Rows.chainBackUptoRow.holds Tryz.pinned (Rows.OpenSpec.upto Rows.chainBackSpec) :=
 OpenClaim.holds_of_cond 7 Tryz.f7 rfl rfl rfl rfl rfl rfl rfl ⟨rfl, rfl, rfl, rfl, rfl⟩ rfl rfl rfl rfl rfl (by kernel_rfl) Tryz.func7 (by kernel_rfl)
  (of_decide_eq_true (by kernel_rfl)) (by unfold Func.isWrapper; first | (rw [if_pos (by decide +kernel)]; kernel_rfl) | (rw [if_neg (by decide +kernel)]; exact ⟨rfl, rfl⟩))
  (fun os started H enc _ F => lifted os started H enc F)
theorem proved : Rows.ChainBackUptoSaid :=
 over
end Go.Proofs.YtjoimiljaljgcaaGreat.chainBack
