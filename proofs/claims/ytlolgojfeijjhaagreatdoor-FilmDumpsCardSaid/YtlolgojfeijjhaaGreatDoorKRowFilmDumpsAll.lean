/-
  The law FilmDumps: whatever film, of whatever size, it answers true, and leaves its argument as it is.
-/
import Derived.Test.YtlolgojfeijjhaaGreatDoorCards
import Derived.Test.YtlolgojfeijjhaaGreatDoorTie
import Derived.Deep.DeepHandedRow
import Derived.LaidLaws
import Derived.SevenTiedAt
import Derived.Test.YtlolgojfeijjhaaGreatDoorPaq
import Derived.OpenShut
import Derived.JoinedCond
namespace Go.Proofs.YtlolgojfeijjhaaGreatDoor.filmDumps
open Go.ChangeShapes Go.WideShapes Go.ChangeAt Go.RowKit Go.K
set_option maxRecDepth 100000
theorem le_all {H : Type} {d : DataW H} : ∀ {l : List (DataW H)}, d ∈ l → Rows.uptoBulk d ≤ Rows.uptoBulkAll l
 | [], h => by cases h
 | x :: r, h => by
  simp only [Rows.uptoBulkAll]
  rcases List.mem_cons.1 h with rfl | h
  ·omega
  ·have := le_all h; omega
theorem one_le {H : Type} (d : DataW H) : 1 ≤ Rows.uptoBulk d := by
 cases d with
 | lit l => cases l <;> simp [Rows.uptoBulk]
 | nil => simp [Rows.uptoBulk]
 | ptr d => simp [Rows.uptoBulk]
 | slice elems spare => simp [Rows.uptoBulk]
 | agg parts => simp [Rows.uptoBulk]
 | iface t d => simp [Rows.uptoBulk]
 | map entries => simp [Rows.uptoBulk]
 | held h => simp [Rows.uptoBulk]
theorem len_all {H : Type} : ∀ (l : List (DataW H)), l.length ≤ Rows.uptoBulkAll l
 | [] => Nat.zero_le _
 | x :: r => by
  have := one_le x
  have := len_all r
  simp only [Rows.uptoBulkAll, List.length_cons]
  omega
def bulk (H : Type) : Bulk H where
 f := Rows.uptoBulk
 el := fun elems spare d h => by have := le_all h; simp only [Rows.uptoBulk]; omega
 ln := fun elems spare => by have := len_all elems; simp only [Rows.uptoBulk]; omega
 pt := fun parts d h => by have := le_all h; simp only [Rows.uptoBulk]; omega
theorem own : ownKnob Tryz.prog.godebug = none := by kernel_rfl
theorem laid : laidOutB Tryz.prog = true := by kernel_rfl
theorem und_film : ∃ fs, Tryz.prog.underlying S.T.api_Film = some (.struct fs) := ⟨_, S.und_of rfl rfl⟩
theorem und_rats : Tryz.prog.underlying S.T.L_api_Rat = some (.slice S.T.api_Rat) := S.und_of rfl rfl
theorem cells_film : Tryz.prog.cellsOf S.T.api_Film = 5 := by kernel_rfl
theorem types_film : Tryz.prog.cellTypes Tryz.prog.depth S.T.api_Film = some [S.T.int, S.T.int, S.T.int, S.T.L_api_Rat, S.T.L_api_Rat] := by kernel_rfl
theorem len_rep {imm : Nat → Prop} {w : World} {xs : List D} {v : Value} (h : RepC imm w (.sl xs) v) : xs = [] ∨ ∃ g off cap, v = .slice (some ⟨g, off, none⟩) xs.length cap := by
 cases h
 ·exact .inl rfl
 ·exact .inr ⟨_, _, _, rfl⟩
theorem len_row {P : Program} {W : World} {imm : Nat → Prop} {base : Nat} {t : TypeId} {ts : List TypeId} {cs : Array Value} (hrow : Row.okWide P W .any base t cs) (hts : P.cellTypes P.depth t = some ts)
  {j : Nat} (hj : j < cs.size) (hjn : j < ts.length) {u e : TypeId} (hu : ts[j]? = some u) (hue : P.underlying u = some (.slice e)) {xs : List D} (h : RepC imm W (.sl xs) (cs.getD j undef)) : xs.length < 9223372036854775808 := by
 obtain ⟨ts', h1, _, h2⟩ := hrow
 obtain rfl := Option.some.inj (h1.symm.trans hts)
 have hg : cs[j]? = some (cs.getD j undef) := by simp [Array.getD, hj]
 obtain ⟨u', e1, ok⟩ := h2 j _ hg
 rw [Nat.mod_eq_of_lt hjn, hu] at e1
 obtain rfl := Option.some.inj e1
 generalize cs.getD j undef = v at *
 unfold Cell.okWide at ok
 rw [hue] at ok
 rcases len_rep h with rfl | ⟨g, off, cap, rfl⟩
 ·exact of_decide_eq_true rfl
 ·have ok' : Cell.ok P W .any base u (.slice (some ⟨g, off, none⟩) xs.length cap) := ok
  unfold Cell.ok at ok'
  rw [hue] at ok'
  obtain ⟨a, b, _⟩ := ok'
  have hm : IntKind.i64.max = 9223372036854775807 := by kernel_rfl
  rw [hm] at b
  omega
theorem contract (H : Type) (enc : TypeId × Value → H) (W : World) (base : Nat) (args : Array Value) (ds gs : List (DataW H)) (before : List MemPlace)
  (hval : ∀ (j : Nat) t v, Tryz.f3.params[j]? = some t → args[j]? = some v → Value.okWide Tryz.prog W .any base t v)
  (hW : DataW.Whole enc Tryz.prog Tryz.f3.params.toList Rows.filmDumpsSpec.vars false W args.toList ds gs before) :
  Calls Tryz.prog 3 args W fun e W' => ∃ v, e = .returned v ∧ Rows.filmDumpsSpec.post enc Tryz.prog Tryz.f3 false true false false W args v W' := by
 have hW' := hW
 obtain ⟨p, q, hA0, hV, rfl, hfz, hnd⟩ := hW
 have hA : DataW.TrodAll enc Tryz.prog W 0 (fun _ => true) true Tryz.f3.params.toList args.toList ds p := hA0
 obtain rfl : gs = [] := by
  cases gs with
  | nil => rfl
  | cons g gs => exact hV.elim
 have hval' := hval
 rw [Tryz.params3] at hA hval'
 obtain ⟨v0, vs0, d0, ds0, p0, q0, hargs, rfl, rfl, h0, r0⟩ := trodAll_cons hA
 obtain ⟨rfl, rfl, rfl⟩ := trodAll_nil r0
 obtain rfl : args = #[v0] := by cases args; simp_all
 obtain ⟨f0, h0⟩ := h0
 obtain ⟨a0, ok0, cl0, rp0⟩ := (S.opens_film (bulk H) enc W).read f0 _ _ _ h0
 have okv : Value.okWide Tryz.prog W .any base S.T.api_Film v0 := hval' 0 _ _ rfl rfl
 have lns : a0.A.length < 9223372036854775808 ∧ a0.B.length < 9223372036854775808 := by
  unfold Value.okWide at okv
  obtain ⟨fs, hfs⟩ := und_film
  rw [hfs] at okv
  obtain ⟨cs, rfl, hsz, hrow⟩ := okv
  rw [cells_film] at hsz
  have e : ∀ j, (Value.agg cs).cells.toList.getD j undef = cs.getD j undef := fun j => by simp [Value.cells, List.getD, Array.getD_eq_getD_getElem?]
  have q3 := rp0 3 (by omega)
  have q4 := rp0 4 (by omega)
  rw [e] at q3 q4
  have l3 := len_row hrow types_film (j := 3) (by omega) (by decide) rfl und_rats (xs := Ψ .dRs a0.A) q3
  have l4 := len_row hrow types_film (j := 4) (by omega) (by decide) rfl und_rats (xs := Ψ .dRs a0.B) q4
  have n3 := slen_dRs a0.A
  have n4 := slen_dRs a0.B
  simp only [w_slen] at n3 n4
  omega
 have good := S.filmDumps_num a0.W a0.H a0.n a0.A a0.B ok0.A.2 ok0.B.2 lns.1 lns.2
 refine row_contract (P := Tryz.prog) (good.b Tryz.func3 (by kernel_rfl)) rfl (fun j hj => ?_) hW' rfl laid (fun t ht => ?_) rfl rfl rfl (tb := S.T.bool) rfl (S.und_of rfl rfl)
 ·have : j = 0 := by simp at hj; omega
  subst this
  ·exact repD_agg (t := S.T.api_Film) (.inl ⟨_, S.und_of rfl rfl⟩) ⟨base, hval' 0 _ _ rfl rfl⟩ cl0 ((S.opens_film (bulk H) enc W).len a0) rp0
 ·rw [Tryz.params3] at ht
  simp only [List.mem_cons, List.not_mem_nil, or_false] at ht
  subst ht
  ·exact ⟨by kernel_rfl, of_decide_eq_true (by kernel_rfl)⟩
def flat1 : DataW Unit → List Value
 | .lit l => match l with
  | .int k n => [.int k n]
  | _ => []
 | _ => []
def flat2 : DataW Unit → List Value
 | .agg l => l.flatMap flat1
 | d => flat1 d
def flat : DataW Unit → List Value
 | .agg l => l.flatMap flat2
 | d => flat1 d
def put (k : Nat) (d : DataW Unit) (w : World) : World :=
 { w with heap := w.heap.modify k fun
   | .cells _ t frozen => .cells (flat d).toArray t frozen
   | o => o }
noncomputable def laidWorld (os : Os) : World :=
 put 0 Rows.laid_internal_strconv_uint64pow10 (put 3 Rows.laid_unicode_utf8_first (put 4 Rows.laid_unicode_utf8_acceptRanges (put 5 Rows.laid_math_bits_deBruijn32tab (put 6 Rows.laid_math_bits_deBruijn64tab (World.holding Tryz.prog os ⟨#[], #[], []⟩)))))
theorem laid_met (os : Os) : laidMet Tryz.prog Rows.filmDumpsRow.laid ((laidWorld os).forCall (fun _ _ => 0) ⟨#[], #[.agg #[.int .i64 0, .int .i64 0, .int .i64 0, .slice none 0 0, .slice none 0 0]], []⟩).memory :=
 laidMet_of_run' 8 (by kernel_rfl) (by kernel_rfl)
theorem reads (os : Os) {H : Type} (enc : TypeId × Value → H) : ∃ places, DataW.whole enc Tryz.prog ((laidWorld os).forCall (fun _ _ => 0) ⟨#[], #[.agg #[.int .i64 0, .int .i64 0, .int .i64 0, .slice none 0 0, .slice none 0 0]], []⟩).memory Tryz.f3.params.toList Rows.filmDumpsSpec.vars false #[.agg #[.int .i64 0, .int .i64 0, .int .i64 0, .slice none 0 0, .slice none 0 0]].toList 8 = some ([.agg [.lit (.int .i64 0), .lit (.int .i64 0), .lit (.int .i64 0), .nil, .nil]], [], places) :=
 ⟨[], by kernel_rfl⟩
theorem lifted (os : Os) (started : os.Started) (H : Type) (enc : TypeId × Value → H) (F : Stop.Interp) :
  ReturnsInHanded {} Tryz.checked os 3 .any ((OpenSpec.ofChange Rows.filmDumpsSpec).preRow enc Tryz.prog Tryz.f3 Rows.filmDumpsRow.domain false Rows.filmDumpsRow.laid) (((OpenSpec.ofChange Rows.filmDumpsSpec).at F).post enc Tryz.prog Tryz.f3 false true false false) := by
 obtain ⟨places, hx⟩ := reads os enc
 refine returnsInHanded_of_row (C := Tryz.checked) (s := OpenSpec.ofChange Rows.filmDumpsSpec) own started (by kernel_rfl) Tryz.func3
  (witness_row_at (enc := enc) (C := Tryz.checked) false (laidWorld os) #[.agg #[.int .i64 0, .int .i64 0, .int .i64 0, .slice none 0 0, .slice none 0 0]] rfl (by kernel_rfl) (by kernel_rfl) (by kernel_rfl)
   (OpenSpec.preRow_of_cond 8 hx (by kernel_rfl) (fun k hk => by cases hk) (by kernel_rfl) (laid_met os))) ?_
 intro W base args ds gs before hval hW _ hcond _ hL _ _
 exact contract H enc W base args ds gs before hval hW
theorem over : Rows.filmDumpsRow.holds Tryz.pinned (OpenSpec.ofChange Rows.filmDumpsSpec) :=
 OpenClaim.holds_of_cond 3 Tryz.f3 rfl rfl rfl rfl rfl rfl rfl ⟨rfl, rfl, rfl, rfl, rfl⟩ rfl rfl rfl rfl rfl (by kernel_rfl) Tryz.func3 (by kernel_rfl)
  (of_decide_eq_true (by kernel_rfl)) (by unfold Func.isWrapper; first | (rw [if_pos (by decide +kernel)]; kernel_rfl) | (rw [if_neg (by decide +kernel)]; exact ⟨rfl, rfl⟩))
  (fun os started H enc _ F => by rw [OpenClaim.pre_eq_preRow]; exact lifted os started H enc F)
theorem plain (f : FuncId) (fn : Func) (hf : Tryz.pinned.checked.prog.funcNamed "penumbra/penumbralaw20.FilmDumps" = some f) (hfn : Tryz.pinned.checked.prog.funcs[f]? = some fn) :
  false = Tryz.pinned.checked.prog.looks [] ∧ ∀ (j : Nat) t, fn.params[j]? = some t → Tryz.pinned.checked.prog.wantsStandIn t = false := by
 obtain rfl : f = 3 := Option.some.inj ((show Tryz.prog.funcNamed "penumbra/penumbralaw20.FilmDumps" = some 3 by kernel_rfl).symm.trans hf) |>.symm
 obtain rfl : fn = Tryz.f3 := (Option.some.inj (Tryz.func3.symm.trans hfn)).symm
 refine ⟨by kernel_rfl, fun j t ht => ?_⟩
 have ht := Array.mem_of_getElem? ht
 rw [Tryz.params3] at ht
 simp only [List.mem_toArray, List.mem_cons, List.not_mem_nil, or_false] at ht
 subst ht
 exact (show Tryz.prog.wantsStandIn _ = false by kernel_rfl)
theorem proved : Rows.FilmDumpsCardSaid :=
 Claim7.holds_tied_plain_at .later [] _ _ _ _ over (fun _ h => by cases h) (by kernel_rfl) (fun _ h => by cases h) filmDumps_row_tie rfl ⟨rfl, rfl⟩ (by kernel_rfl) rfl plain (by kernel_rfl)
end Go.Proofs.YtlolgojfeijjhaaGreatDoor.filmDumps
