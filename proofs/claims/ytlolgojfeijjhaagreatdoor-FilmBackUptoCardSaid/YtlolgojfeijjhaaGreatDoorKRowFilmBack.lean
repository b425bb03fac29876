/-
  The law FilmBack: whatever film, of bulk at most 1048576, it answers true, and leaves its argument as it is.
-/
import Derived.Test.YtlolgojfeijjhaaGreatDoorCards
import Derived.Test.YtlolgojfeijjhaaGreatDoorTie
import Derived.Deep.DeepHandedRow
import Derived.LaidLaws
import Derived.SevenTiedAt
import Derived.Test.YtlolgojfeijjhaaGreatDoorQba
import Derived.Test.YtlolgojfeijjhaaGreatDoorQaq
import Derived.OpenShut
import Derived.JoinedCond
namespace Go.Proofs.YtlolgojfeijjhaaGreatDoor.filmBack
open Go.ChangeShapes Go.WideShapes Go.ChangeAt Go.RowKit Go.K
set_option maxRecDepth 100000
theorem le_all {H : Type} {d : DataW H} : ∀ {l : List (DataW H)}, d ∈ l → Rows.uptoBulk d ≤ Rows.uptoBulkAll l
 | [], h => by cases h
 | x :: r, h => by
  simp only [Rows.uptoBulkAll]
  rcases List.mem_cons.1 h with rfl | h
  ·omega
  ·have := le_all h; omega
theorem one_le {H : Type} (d : DataW H) : 1 ≤ Rows.uptoBulk d := by
 cases d with
 | lit l => cases l <;> simp [Rows.uptoBulk]
 | nil => simp [Rows.uptoBulk]
 | ptr d => simp [Rows.uptoBulk]
 | slice elems spare => simp [Rows.uptoBulk]
 | agg parts => simp [Rows.uptoBulk]
 | iface t d => simp [Rows.uptoBulk]
 | map entries => simp [Rows.uptoBulk]
 | held h => simp [Rows.uptoBulk]
theorem len_all {H : Type} : ∀ (l : List (DataW H)), l.length ≤ Rows.uptoBulkAll l
 | [] => Nat.zero_le _
 | x :: r => by
  have := one_le x
  have := len_all r
  simp only [Rows.uptoBulkAll, List.length_cons]
  omega
def bulk (H : Type) : Bulk H where
 f := Rows.uptoBulk
 el := fun elems spare d h => by have := le_all h; simp only [Rows.uptoBulk]; omega
 ln := fun elems spare => by have := len_all elems; simp only [Rows.uptoBulk]; omega
 pt := fun parts d h => by have := le_all h; simp only [Rows.uptoBulk]; omega
theorem own : ownKnob Tryz.prog.godebug = none := by kernel_rfl
theorem laid : laidOutB Tryz.prog = true := by kernel_rfl
theorem contract (H : Type) (enc : TypeId × Value → H) (W : World) (base : Nat) (args : Array Value) (ds gs : List (DataW H)) (before : List MemPlace)
  (hval : ∀ (j : Nat) t v, Tryz.f7.params[j]? = some t → args[j]? = some v → Value.okWide Tryz.prog W .any base t v)
  (hW : DataW.Whole enc Tryz.prog Tryz.f7.params.toList Rows.filmBackSpec.vars false W args.toList ds gs before) (hk : Rows.uptoSmall H (ds ++ gs) = true) :
  Calls Tryz.prog 7 args W fun e W' => ∃ v, e = .returned v ∧ Rows.filmBackSpec.post enc Tryz.prog Tryz.f7 false true false false W args v W' := by
 have hW' := hW
 obtain ⟨p, q, hA0, hV, rfl, hfz, hnd⟩ := hW
 have hA : DataW.TrodAll enc Tryz.prog W 0 (fun _ => true) true Tryz.f7.params.toList args.toList ds p := hA0
 obtain rfl : gs = [] := by
  cases gs with
  | nil => rfl
  | cons g gs => exact hV.elim
 have hval' := hval
 rw [Tryz.params7] at hA hval'
 obtain ⟨v0, vs0, d0, ds0, p0, q0, hargs, rfl, rfl, h0, r0⟩ := trodAll_cons hA
 obtain ⟨rfl, rfl, rfl⟩ := trodAll_nil r0
 obtain rfl : args = #[v0] := by cases args; simp_all
 obtain ⟨f0, h0⟩ := h0
 obtain ⟨a0, ok0, cl0, rp0⟩ := (S.opens_film (bulk H) enc W).read f0 _ _ _ h0
 have hbd : Rows.uptoBulkAll ([d0] ++ []) ≤ 1048576 := of_decide_eq_true hk
 have k0 := (S.opens_film (bulk H) enc W).mono _ _ a0 (Nat.le_trans (le_all (d := d0) (by simp)) hbd) ok0
 have good := S.filmBack_good a0 k0
 refine row_contract (P := Tryz.prog) (good.b Tryz.func7 (by kernel_rfl)) rfl (fun j hj => ?_) hW' rfl laid (fun t ht => ?_) rfl rfl rfl (tb := S.T.bool) rfl (S.und_of rfl rfl)
 ·have : j = 0 := by simp at hj; omega
  subst this
  ·exact repD_agg (t := S.T.api_Film) (.inl ⟨_, S.und_of rfl rfl⟩) ⟨base, hval' 0 _ _ rfl rfl⟩ cl0 ((S.opens_film (bulk H) enc W).len a0) rp0
 ·rw [Tryz.params7] at ht
  simp only [List.mem_cons, List.not_mem_nil, or_false] at ht
  subst ht
  ·exact ⟨by kernel_rfl, of_decide_eq_true (by kernel_rfl)⟩
def flat1 : DataW Unit → List Value
 | .lit l => match l with
  | .int k n => [.int k n]
  | _ => []
 | _ => []
def flat2 : DataW Unit → List Value
 | .agg l => l.flatMap flat1
 | d => flat1 d
def flat : DataW Unit → List Value
 | .agg l => l.flatMap flat2
 | d => flat1 d
def put (k : Nat) (d : DataW Unit) (w : World) : World :=
 { w with heap := w.heap.modify k fun
   | .cells _ t frozen => .cells (flat d).toArray t frozen
   | o => o }
noncomputable def laidWorld (os : Os) : World :=
 put 0 Rows.laid_internal_strconv_uint64pow10 (put 3 Rows.laid_unicode_utf8_first (put 4 Rows.laid_unicode_utf8_acceptRanges (put 5 Rows.laid_math_bits_deBruijn32tab (put 6 Rows.laid_math_bits_deBruijn64tab (World.holding Tryz.prog os ⟨#[], #[], []⟩)))))
theorem laid_met (os : Os) : laidMet Tryz.prog Rows.filmBackUptoRow.laid ((laidWorld os).forCall (fun _ _ => 0) ⟨#[], #[.agg #[.int .i64 0, .int .i64 0, .int .i64 0, .slice none 0 0, .slice none 0 0]], []⟩).memory :=
 laidMet_of_run' 8 (by kernel_rfl) (by kernel_rfl)
theorem reads (os : Os) {H : Type} (enc : TypeId × Value → H) : ∃ places, DataW.whole enc Tryz.prog ((laidWorld os).forCall (fun _ _ => 0) ⟨#[], #[.agg #[.int .i64 0, .int .i64 0, .int .i64 0, .slice none 0 0, .slice none 0 0]], []⟩).memory Tryz.f7.params.toList Rows.filmBackSpec.vars false #[.agg #[.int .i64 0, .int .i64 0, .int .i64 0, .slice none 0 0, .slice none 0 0]].toList 8 = some ([.agg [.lit (.int .i64 0), .lit (.int .i64 0), .lit (.int .i64 0), .nil, .nil]], [], places) :=
 ⟨[], by kernel_rfl⟩
theorem lifted (os : Os) (started : os.Started) (H : Type) (enc : TypeId × Value → H) (F : Stop.Interp) :
  ReturnsInHanded {} Tryz.checked os 7 .any ((Rows.OpenSpec.upto Rows.filmBackSpec).preRow enc Tryz.prog Tryz.f7 Rows.filmBackUptoRow.domain false Rows.filmBackUptoRow.laid) (((Rows.OpenSpec.upto Rows.filmBackSpec).at F).post enc Tryz.prog Tryz.f7 false true false false) := by
 obtain ⟨places, hx⟩ := reads os enc
 refine returnsInHanded_of_row (C := Tryz.checked) (s := Rows.OpenSpec.upto Rows.filmBackSpec) own started (by kernel_rfl) Tryz.func7
  (witness_row_at (enc := enc) (C := Tryz.checked) false (laidWorld os) #[.agg #[.int .i64 0, .int .i64 0, .int .i64 0, .slice none 0 0, .slice none 0 0]] rfl (by kernel_rfl) (by kernel_rfl) (by kernel_rfl)
   (OpenSpec.preRow_of_cond 8 hx (by kernel_rfl) (fun k hk => by cases hk; kernel_rfl) (by kernel_rfl) (laid_met os))) ?_
 intro W base args ds gs before hval hW _ hcond _ hL _ _
 exact contract H enc W base args ds gs before hval hW (hcond _ rfl)
theorem over : Rows.filmBackUptoRow.holds Tryz.pinned (Rows.OpenSpec.upto Rows.filmBackSpec) :=
 OpenClaim.holds_of_cond 7 Tryz.f7 rfl rfl rfl rfl rfl rfl rfl ⟨rfl, rfl, rfl, rfl, rfl⟩ rfl rfl rfl rfl rfl (by kernel_rfl) Tryz.func7 (by kernel_rfl)
  (of_decide_eq_true (by kernel_rfl)) (by unfold Func.isWrapper; first | (rw [if_pos (by decide +kernel)]; kernel_rfl) | (rw [if_neg (by decide +kernel)]; exact ⟨rfl, rfl⟩))
  (fun os started H enc _ F => by rw [OpenClaim.pre_eq_preRow]; exact lifted os started H enc F)
theorem plain (f : FuncId) (fn : Func) (hf : Tryz.pinned.checked.prog.funcNamed "penumbra/penumbralaw20.FilmBack" = some f) (hfn : Tryz.pinned.checked.prog.funcs[f]? = some fn) :
  false = Tryz.pinned.checked.prog.looks [] ∧ ∀ (j : Nat) t, fn.params[j]? = some t → Tryz.pinned.checked.prog.wantsStandIn t = false := by
 obtain rfl : f = 7 := Option.some.inj ((show Tryz.prog.funcNamed "penumbra/penumbralaw20.FilmBack" = some 7 by kernel_rfl).symm.trans hf) |>.symm
 obtain rfl : fn = Tryz.f7 := (Option.some.inj (Tryz.func7.symm.trans hfn)).symm
 refine ⟨by kernel_rfl, fun j t ht => ?_⟩
 have ht := Array.mem_of_getElem? ht
 rw [Tryz.params7] at ht
 simp only [List.mem_toArray, List.mem_cons, List.not_mem_nil, or_false] at ht
 subst ht
 exact (show Tryz.prog.wantsStandIn _ = false by kernel_rfl)
theorem proved : Rows.FilmBackUptoCardSaid :=
 Claim7.holds_tied_plain_at .later [] _ _ _ _ over (fun _ h => by cases h) (by kernel_rfl) (fun _ h => by cases h) filmBackUpto_row_tie rfl ⟨rfl, rfl⟩ (by kernel_rfl) rfl plain (by kernel_rfl)
end Go.Proofs.YtlolgojfeijjhaaGreatDoor.filmBack
