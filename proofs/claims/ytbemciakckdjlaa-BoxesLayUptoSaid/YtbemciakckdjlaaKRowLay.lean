/-
  The law BoxesLay: whatever points and boxes, of bulk at most 1048576 together, it answers true, and leaves its arguments as they are.
-/
import Derived.Test.YtbemciakckdjlaaRows
import Derived.Test.YtbemciakckdjlaaKf
import Derived.Test.YtbemciakckdjlaaKg
import Derived.OpenShut
import Derived.JoinedCond
namespace Go.Proofs.Ytbemciakckdjlaa.boxesLay
open Go.ChangeShapes Go.WideShapes Go.ChangeAt Go.RowKit Go.K
set_option maxRecDepth 100000

theorem le_all {H : Type} {d : DataW H} : ∀ {l : List (DataW H)}, d ∈ l → Rows.uptoBulk d ≤ Rows.uptoBulkAll l
  | [], h => by cases h
  | x :: r, h => by
    simp only [Rows.uptoBulkAll]
    rcases List.mem_cons.1 h with rfl | h
    · omega
    · have := le_all h; omega
theorem one_le {H : Type} (d : DataW H) : 1 ≤ Rows.uptoBulk d := by
  cases d with
  | lit l => cases l <;> simp [Rows.uptoBulk]
  | nil => simp [Rows.uptoBulk]
  | ptr d => simp [Rows.uptoBulk]
  | slice elems spare => simp [Rows.uptoBulk]
  | agg parts => simp [Rows.uptoBulk]
  | iface t d => simp [Rows.uptoBulk]
  | map entries => simp [Rows.uptoBulk]
  | held h => simp [Rows.uptoBulk]
theorem len_all {H : Type} : ∀ (l : List (DataW H)), l.length ≤ Rows.uptoBulkAll l
  | [] => Nat.zero_le _
  | x :: r => by
    have := one_le x
    have := len_all r
    simp only [Rows.uptoBulkAll, List.length_cons]
    omega
def bulk (H : Type) : Bulk H where
  f := Rows.uptoBulk
  el := fun elems spare d h => by have := le_all h; simp only [Rows.uptoBulk]; omega
  ln := fun elems spare => by have := len_all elems; simp only [Rows.uptoBulk]; omega
  pt := fun parts d h => by have := le_all h; simp only [Rows.uptoBulk]; omega

theorem own : ownKnob Try.prog.godebug = none := by kernel_rfl
theorem laid : laidOutB Try.prog = true := by kernel_rfl

theorem contract (H : Type) (enc : TypeId × Value → H) (W : World) (base : Nat) (args : Array Value) (ds gs : List (DataW H)) (before : List MemPlace)
    (hval : ∀ (j : Nat) t v, Try.f3.params[j]? = some t → args[j]? = some v → Value.okWide Try.prog W .any base t v)
    (hW : DataW.Whole enc Try.prog Try.f3.params.toList Rows.boxesLaySpec.vars false W args.toList ds gs before) (hk : Rows.uptoSmall H (ds ++ gs) = true) :
    Calls Try.prog 3 args W fun e W' => ∃ v, e = .returned v ∧ Rows.boxesLaySpec.post enc Try.prog Try.f3 false true false false W args v W' := by
  have hW' := hW
  obtain ⟨p, q, hA0, hV, rfl, hfz, hnd⟩ := hW
  have hA : DataW.TrodAll enc Try.prog W 0 (fun _ => true) true Try.f3.params.toList args.toList ds p := hA0
  obtain rfl : gs = [] := by
    cases gs with
    | nil => rfl
    | cons g gs => exact hV.elim
  have hval' := hval
  rw [Try.params3] at hA hval'
  obtain ⟨v0, vs0, d0, ds0, p0, q0, hargs, rfl, rfl, h0, r0⟩ := trodAll_cons hA
  obtain ⟨v1, vs1, d1, ds1, p1, q1, rfl, rfl, rfl, h1, r1⟩ := trodAll_cons r0
  obtain ⟨rfl, rfl, rfl⟩ := trodAll_nil r1
  obtain rfl : args = #[v0, v1] := by cases args; simp_all
  obtain ⟨f0, h0⟩ := h0
  obtain ⟨f1, h1⟩ := h1
  obtain ⟨l, okl, _, rl⟩ := (S.opens_vecs (bulk H) enc W).read f0 _ _ _ h0
  obtain ⟨b, okb, _, rb⟩ := (S.opens_boxes (bulk H) enc W).read f1 _ _ _ h1
  have hbd : Rows.uptoBulkAll ([d0, d1] ++ []) ≤ 1048576 := of_decide_eq_true hk
  have b0 : Rows.uptoBulk d0 ≤ 1048576 := Nat.le_trans (le_all (by simp)) hbd
  have b1 : Rows.uptoBulk d1 ≤ 1048576 := Nat.le_trans (le_all (by simp)) hbd
  have hl : l.length ≤ 1048576 := Nat.le_trans okl.1 b0
  have hl' : b.length ≤ 1048576 := Nat.le_trans okb.1 b1
  have good := S.boxesLay_good l b (k := 1048576) (fun v hv => (okl.2 v hv).mono b0) (by omega) (fun v hv => ⟨(okb.2 v hv).lo.mono b1, (okb.2 v hv).hi.mono b1⟩) (by omega) (by omega) (by omega)
  refine row_contract (P := Try.prog) good rfl (fun j hj => ?_) hW' rfl laid (fun t ht => ?_) rfl rfl rfl (tb := S.T.bool) rfl (S.und_of rfl rfl)
  · have : j = 0 ∨ j = 1 := by simp at hj; omega
    rcases this with rfl | rfl
    · exact repD_one (t := S.T.L_api_Vec) rfl (fun u hu => by rw [S.und_of (u := .slice S.T.api_Vec) rfl rfl] at hu; cases hu; rfl) ⟨base, hval' 0 _ _ rfl rfl⟩ (rl 0 (by omega))
    · exact repD_one (t := S.T.L_api_Box) rfl (fun u hu => by rw [S.und_of (u := .slice S.T.api_Box) rfl rfl] at hu; cases hu; rfl) ⟨base, hval' 1 _ _ rfl rfl⟩ (rb 0 (by omega))
  · rw [Try.params3] at ht
    simp only [List.mem_cons, List.not_mem_nil, or_false] at ht
    rcases ht with rfl | rfl
    · exact ⟨by kernel_rfl, of_decide_eq_true (by kernel_rfl)⟩
    · exact ⟨by kernel_rfl, of_decide_eq_true (by kernel_rfl)⟩

theorem lifted (os : Os) (started : os.Started) (H : Type) (enc : TypeId × Value → H) (F : Stop.Interp) :
    ReturnsInHanded {} Try.checked os 3 .any ((Rows.OpenSpec.upto Rows.boxesLaySpec).pre6 enc Try.prog Try.f3 Rows.boxesLayUptoRow.domain false) (((Rows.OpenSpec.upto Rows.boxesLaySpec).at F).post enc Try.prog Try.f3 false true false false) := by
  refine returnsInHanded_of_cond (C := Try.checked) (s := Rows.OpenSpec.upto Rows.boxesLaySpec) (k := Rows.uptoSmall) rfl own started (by kernel_rfl) Try.func3
    (OpenSpec.witness (enc := enc) (C := Try.checked) (s := Rows.OpenSpec.upto Rows.boxesLaySpec) (k := Rows.uptoSmall) rfl false ⟨#[], #[.slice none 0 0, .slice none 0 0], []⟩ 8 (by kernel_rfl) (by kernel_rfl) (by kernel_rfl)
      (x := ([.nil, .nil], [], [])) (by kernel_rfl) rfl (by kernel_rfl)) ?_
  intro W base args ds gs before hval hW _ hk _
  exact contract H enc W base args ds gs before hval hW hk

theorem over : Rows.boxesLayUptoRow.holds Try.pinned (Rows.OpenSpec.upto Rows.boxesLaySpec) :=
  OpenClaim.holds_of_cond 3 Try.f3 rfl rfl rfl rfl rfl rfl rfl ⟨rfl, rfl, rfl, rfl, rfl⟩ rfl rfl rfl rfl rfl (by kernel_rfl) Try.func3 (by kernel_rfl)
    (of_decide_eq_true (by kernel_rfl)) (by unfold Func.isWrapper; first | (rw [if_pos (by decide +kernel)]; kernel_rfl) | (rw [if_neg (by decide +kernel)]; exact ⟨rfl, rfl⟩))
    (fun os started H enc _ F => lifted os started H enc F)

theorem proved : Rows.BoxesLayUptoSaid :=
  over
end Go.Proofs.Ytbemciakckdjlaa.boxesLay
