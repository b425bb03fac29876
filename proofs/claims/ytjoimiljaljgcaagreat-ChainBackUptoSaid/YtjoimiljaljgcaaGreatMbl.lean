/-
  Parts of the proof, joined by a program of this work: KRoom, KRoom2, KBoxs, KBox, KJoin, KClip, KRef10, KRefJoin, KFix10, KRefClip, KLawClipQ, KLawBoxesClip, KLawBoxesWithin, KLawBoxesHold.
-/
import Derived.Test.YtjoimiljaljgcaaGreatMbk
import Derived.Test.YtjoimiljaljgcaaGreatMbi
import Derived.Test.YtjoimiljaljgcaaGreatMbh
set_option linter.unusedSimpArgs false
set_option linter.unusedVariables false
set_option maxHeartbeats 16000000
set_option maxRecDepth 20000
section
namespace Go.K
open Go
def roomT : List Nat := [119, 97, 118, 101, 115, 32, 49, 10, 101, 121, 101, 32, 48, 32, 48, 32, 49, 10, 108, 111, 111, 107, 32, 48, 32, 48, 32, 49, 10, 102, 105, 108, 109, 32, 49, 32, 49, 32, 49, 10, 100, 105, 102, 102, 117, 115, 101, 32, 49, 47, 56, 10, 109, 105, 114, 114, 111, 114, 32, 49, 47, 50, 10, 116, 114, 105, 32, 48, 32, 45, 57, 32, 45, 57, 32, 48, 32, 49, 56, 32, 45, 57, 32, 48, 32, 45, 57, 32, 49, 56, 32, 48, 10, 116, 114, 105, 32, 49, 32, 45, 57, 32, 45, 57, 32, 50, 32, 45, 57, 32, 49, 56, 32, 50, 32, 49, 56, 32, 45, 57, 32, 50, 10]
def roomLs : List (List Nat) := [[119, 97, 118, 101, 115, 32, 49], [101, 121, 101, 32, 48, 32, 48, 32, 49], [108, 111, 111, 107, 32, 48, 32, 48, 32, 49], [102, 105, 108, 109, 32, 49, 32, 49, 32, 49], [100, 105, 102, 102, 117, 115, 101, 32, 49, 47, 56], [109, 105, 114, 114, 111, 114, 32, 49, 47, 50], [116, 114, 105, 32, 48, 32, 45, 57, 32, 45, 57, 32, 48, 32, 49, 56, 32, 45, 57, 32, 48, 32, 45, 57, 32, 49, 56, 32, 48], [116, 114, 105, 32, 49, 32, 45, 57, 32, 45, 57, 32, 50, 32, 45, 57, 32, 49, 56, 32, 50, 32, 49, 56, 32, 45, 57, 32, 50], []]
def roomW0 : List (List Nat) := [[119, 97, 118, 101, 115], [49]]
def roomW1 : List (List Nat) := [[101, 121, 101], [48], [48], [49]]
def roomW2 : List (List Nat) := [[108, 111, 111, 107], [48], [48], [49]]
def roomW3 : List (List Nat) := [[102, 105, 108, 109], [49], [49], [49]]
def roomW4 : List (List Nat) := [[100, 105, 102, 102, 117, 115, 101], [49, 47, 56]]
def roomW5 : List (List Nat) := [[109, 105, 114, 114, 111, 114], [49, 47, 50]]
def roomW6 : List (List Nat) := [[116, 114, 105], [48], [45, 57], [45, 57], [48], [49, 56], [45, 57], [48], [45, 57], [49, 56], [48]]
def roomW7 : List (List Nat) := [[116, 114, 105], [49], [45, 57], [45, 57], [50], [45, 57], [49, 56], [50], [49, 56], [45, 57], [50]]
def roomW8 : List (List Nat) := []
def roomW : Nat → List (List Nat)
 | 0 => roomW0
 | 1 => roomW1
 | 2 => roomW2
 | 3 => roomW3
 | 4 => roomW4
 | 5 => roomW5
 | 6 => roomW6
 | 7 => roomW7
 | 8 => roomW8
 | _ => []
theorem room_lines : linesB roomT [] = roomLs := by decide +kernel
theorem room_words : ∀ j, j < 9 → ∀ l, roomLs[j]? = some l → wordsB l [] = roomW j := by decide +kernel
def rMat0 : MatL := ⟨0, [Ψ .cr (mkRat 1 8)], Ψ .cr 0, Ψ .cr 0⟩
def rMat1 : MatL := ⟨1, [Ψ .cr (mkRat 1 2)], Ψ .cr 0, Ψ .cr 0⟩
def rv3 (a b c : Int) : VL := ⟨Ψ .cr (mkRat a 1), Ψ .cr (mkRat b 1), Ψ .cr (mkRat c 1)⟩
def rFace0 : FaceL := ⟨⟨rv3 (-9) (-9) 0, rv3 18 (-9) 0, rv3 (-9) 18 0⟩, 0⟩
def rFace1 : FaceL := ⟨⟨rv3 (-9) (-9) 2, rv3 (-9) 18 2, rv3 18 (-9) 2⟩, 1⟩
def roomS : ScL := ⟨[Ψ .cr (mkRat 1 1)], [rMat0, rMat1], [rFace0, rFace1], rv3 0 0 1, rv3 0 0 1, 1, 1, Ψ .cr (mkRat 1 1)⟩
def z3c : List V := [.d (.b false), .nil, .nil]
def stf (wv ma fa : V) (e l : List V) (w h : Int) (hf : List V) (b0 b1 b2 b3 : Bool) : List V :=
 wv :: ma :: fa :: (e ++ l ++ .d (.i .i64 w) :: .d (.i .i64 h) :: (hf ++ [.d (.b b0), .d (.b b1), .d (.b b2), .d (.b b3)]))
def z9c : List V := z3c ++ z3c ++ z3c
end Go.K
namespace Go.K.S
open Go Go.K
theorem nums0 : Good P F.penumbraref09_numbers [.d (.sl (strsD [[49]]))] [] (.tup [.d (.sl (crsD [mkRat 1 1])), .d (.b true)]) [] :=
 numbers9_good _ _ rfl (by decide) (by decide) (fun i w q h1 h2 => by
  have key : ∀ i, i < 1 → ∀ w, ([[49]] : List (List Nat))[i]? = some w → ∀ q, ([mkRat 1 1] : List Rat)[i]? = some q → parseS w = some q := by decide +kernel
  exact key i (List.getElem?_eq_some_iff.1 h1).1 w h1 q h2)
theorem nums1 : Good P F.penumbraref09_numbers [.d (.sl (strsD [[48], [48], [49]]))] [] (.tup [.d (.sl (crsD [mkRat 0 1, mkRat 0 1, mkRat 1 1])), .d (.b true)]) [] :=
 numbers9_good _ _ rfl (by decide) (by decide) (fun i w q h1 h2 => by
  have key : ∀ i, i < 3 → ∀ w, ([[48], [48], [49]] : List (List Nat))[i]? = some w → ∀ q, ([mkRat 0 1, mkRat 0 1, mkRat 1 1] : List Rat)[i]? = some q → parseS w = some q := by decide +kernel
  exact key i (List.getElem?_eq_some_iff.1 h1).1 w h1 q h2)
theorem nums2 : Good P F.penumbraref09_numbers [.d (.sl (strsD [[48], [48], [49]]))] [] (.tup [.d (.sl (crsD [mkRat 0 1, mkRat 0 1, mkRat 1 1])), .d (.b true)]) [] :=
 numbers9_good _ _ rfl (by decide) (by decide) (fun i w q h1 h2 => by
  have key : ∀ i, i < 3 → ∀ w, ([[48], [48], [49]] : List (List Nat))[i]? = some w → ∀ q, ([mkRat 0 1, mkRat 0 1, mkRat 1 1] : List Rat)[i]? = some q → parseS w = some q := by decide +kernel
  exact key i (List.getElem?_eq_some_iff.1 h1).1 w h1 q h2)
theorem nums3 : Good P F.penumbraref09_numbers [.d (.sl (strsD [[49], [49], [49]]))] [] (.tup [.d (.sl (crsD [mkRat 1 1, mkRat 1 1, mkRat 1 1])), .d (.b true)]) [] :=
 numbers9_good _ _ rfl (by decide) (by decide) (fun i w q h1 h2 => by
  have key : ∀ i, i < 3 → ∀ w, ([[49], [49], [49]] : List (List Nat))[i]? = some w → ∀ q, ([mkRat 1 1, mkRat 1 1, mkRat 1 1] : List Rat)[i]? = some q → parseS w = some q := by decide +kernel
  exact key i (List.getElem?_eq_some_iff.1 h1).1 w h1 q h2)
theorem nums4 : Good P F.penumbraref09_numbers [.d (.sl (strsD [[49, 47, 56]]))] [] (.tup [.d (.sl (crsD [mkRat 1 8])), .d (.b true)]) [] :=
 numbers9_good _ _ rfl (by decide) (by decide) (fun i w q h1 h2 => by
  have key : ∀ i, i < 1 → ∀ w, ([[49, 47, 56]] : List (List Nat))[i]? = some w → ∀ q, ([mkRat 1 8] : List Rat)[i]? = some q → parseS w = some q := by decide +kernel
  exact key i (List.getElem?_eq_some_iff.1 h1).1 w h1 q h2)
theorem nums5 : Good P F.penumbraref09_numbers [.d (.sl (strsD [[49, 47, 50]]))] [] (.tup [.d (.sl (crsD [mkRat 1 2])), .d (.b true)]) [] :=
 numbers9_good _ _ rfl (by decide) (by decide) (fun i w q h1 h2 => by
  have key : ∀ i, i < 1 → ∀ w, ([[49, 47, 50]] : List (List Nat))[i]? = some w → ∀ q, ([mkRat 1 2] : List Rat)[i]? = some q → parseS w = some q := by decide +kernel
  exact key i (List.getElem?_eq_some_iff.1 h1).1 w h1 q h2)
theorem nums6 : Good P F.penumbraref09_numbers [.d (.sl (strsD [[48], [45, 57], [45, 57], [48], [49, 56], [45, 57], [48], [45, 57], [49, 56], [48]]))] [] (.tup [.d (.sl (crsD [mkRat 0 1, mkRat (-9) 1, mkRat (-9) 1, mkRat 0 1, mkRat 18 1, mkRat (-9) 1, mkRat 0 1, mkRat (-9) 1, mkRat 18 1, mkRat 0 1])), .d (.b true)]) [] :=
 numbers9_good _ _ rfl (by decide) (by decide) (fun i w q h1 h2 => by
  have key : ∀ i, i < 10 → ∀ w, ([[48], [45, 57], [45, 57], [48], [49, 56], [45, 57], [48], [45, 57], [49, 56], [48]] : List (List Nat))[i]? = some w → ∀ q, ([mkRat 0 1, mkRat (-9) 1, mkRat (-9) 1, mkRat 0 1, mkRat 18 1, mkRat (-9) 1, mkRat 0 1, mkRat (-9) 1, mkRat 18 1, mkRat 0 1] : List Rat)[i]? = some q → parseS w = some q := by decide +kernel
  exact key i (List.getElem?_eq_some_iff.1 h1).1 w h1 q h2)
theorem nums7 : Good P F.penumbraref09_numbers [.d (.sl (strsD [[49], [45, 57], [45, 57], [50], [45, 57], [49, 56], [50], [49, 56], [45, 57], [50]]))] [] (.tup [.d (.sl (crsD [mkRat 1 1, mkRat (-9) 1, mkRat (-9) 1, mkRat 2 1, mkRat (-9) 1, mkRat 18 1, mkRat 2 1, mkRat 18 1, mkRat (-9) 1, mkRat 2 1])), .d (.b true)]) [] :=
 numbers9_good _ _ rfl (by decide) (by decide) (fun i w q h1 h2 => by
  have key : ∀ i, i < 10 → ∀ w, ([[49], [45, 57], [45, 57], [50], [45, 57], [49, 56], [50], [49, 56], [45, 57], [50]] : List (List Nat))[i]? = some w → ∀ q, ([mkRat 1 1, mkRat (-9) 1, mkRat (-9) 1, mkRat 2 1, mkRat (-9) 1, mkRat 18 1, mkRat 2 1, mkRat 18 1, mkRat (-9) 1, mkRat 2 1] : List Rat)[i]? = some q → parseS w = some q := by decide +kernel
  exact key i (List.getElem?_eq_some_iff.1 h1).1 w h1 q h2)
end Go.K.S
end
section
namespace Go.K
open Go
theorem rt {P Q : Prop} (q : Q) (h : Hid Q → P := by
 intro q; (generalize hΩ : Ω = ω, hΨ : Ψ = ψ; cbv <;> subst hΩ hΨ <;> try simp only [lits, true_and, Int.reduceAdd, Int.reduceSub, Int.reduceMul, not_u32, slen_nil, tn_ci, tn_zero, tn_one, tn_two, slen_lims, slen_dRs, slen_dVs, slen_dBs])
 (repeat (
  first
   | refine ⟨_, hC _ _ _ (by assumption), ?_⟩
   | refine ⟨_, _, hC2 _ _ _ _ _ (by assumption), ?_⟩
   | refine ⟨_, hC2 _ _ _ _ _ (by assumption), rfl, rfl, ?_⟩
   | refine ⟨ci_nonneg _, _, (by assumption), rfl, ?_⟩
   | refine ⟨_, (by assumption), rfl, ?_⟩
   | refine ⟨ci_nonneg _, (by simp only [wz, slen_scat]; omega), _, (by assumption), (by first | exact Nat.le_refl _ | (simp; done)), rfl, ?_⟩
   | refine ⟨(by first | exact fun u h => by rw [List.mem_singleton.1 h]; rfl | exact cells_dRs _ | assumption), (by simp only [wz, slen_scat]; omega), ?_⟩
   | refine ⟨(by simp only [wz]; omega), _, (by assumption), (by first | exact Nat.le_refl _ | (simp; done)), rfl, ?_⟩
   | refine ⟨ci_nonneg _, _, (by assumption), ?_⟩
   | refine ⟨_, (by assumption), (by first | exact Nat.le_refl _ | (simp; done)), rfl, ?_⟩
   | refine ⟨_, (by assumption), ?_⟩
   | refine BrG.yes (by first | assumption | decide) ?_
   | refine BrG.no (by first | assumption | decide) ?_
   | refine ⟨(by simp only [wz]; omega), ?_⟩
   | refine ⟨(fun h => nomatch h), (by assumption), ?_⟩
   | refine ⟨(by assumption), ?_⟩
  (generalize hΩ : Ω = ω, hΨ : Ψ = ψ; cbv <;> subst hΩ hΨ <;> try simp only [lits, true_and, Int.reduceAdd, Int.reduceSub, Int.reduceMul, not_u32, slen_nil, tn_ci, tn_zero, tn_one, tn_two, slen_lims, slen_dRs, slen_dVs, slen_dBs])))
 all_goals with_reducible exact q.out) : P := h ⟨q⟩
theorem strs_cells (l : List (List Nat)) : ∀ x, x ∈ strsD l → x.cells.length = 1 := fun x h => by
 unfold strsD at h
 obtain ⟨a, _, rfl⟩ := List.mem_map.1 h
 rfl
theorem strs_tail (x : List Nat) (l : List (List Nat)) : Ω .ssub (strsD (x :: l)) 1 (Ω .nsub (Ω .slen (strsD (x :: l))) 1) = strsD l := by
 rw [slen_strsD, w_nsub, w_ssub]
 simp only [strsD, List.length_cons, List.map_cons, List.drop_succ_cons, List.drop_zero]
 exact List.take_of_length_le (by simp)
theorem sget_crsD {l : List Rat} {i : Nat} {q : Rat} (h : l[i]? = some q) : Ω .sget (crsD l) i = some (.agg (dR Ψ (Ψ .cr q))) := by
 unfold crsD
 rw [sget_dRs, List.getElem?_map, h]; rfl
end Go.K
namespace Go.K.S
open Go Go.K
theorem w1_good : Good P F.penumbraref09_whole [.d (.agg (dR Ψ (Ψ .cr (mkRat 1 1))))] [] (.d (.i .i64 1)) [] := by
 have := whole9_good 1 (by omega)
 rw [show ((1 : Nat) : Rat) = mkRat 1 1 by decide +kernel] at this
 exact this
theorem w0_good : Good P F.penumbraref09_whole [.d (.agg (dR Ψ (Ψ .cr (mkRat 0 1))))] [] (.d (.i .i64 0)) [] := by
 have := whole9_good 0 (by omega)
 rw [show ((0 : Nat) : Rat) = mkRat 0 1 by decide +kernel] at this
 exact this
theorem line0 : Good P F.penumbraref09_line [.agg (stf .nil (.own 0 8) (.own 1 28) z9c z9c 0 0 z3c false false false false), .d (.sl (strsD roomW0))] [.row true T.api_Mat 8 [], .row true T.api_Face 28 []]
  (.tup [.agg (stf (.d (.sl (crsD [mkRat 1 1]))) (.own 0 8) (.own 1 28) z9c z9c 0 0 z3c true false false false), .d (.i .i64 0)]) [.row true T.api_Mat 8 [], .row true T.api_Face 28 []] := by
 refine G.penumbraref09_line (hb := of_decide_eq_true rfl) fun C C2 hC hC2 => ?_
 have x0 : Ω .sget (strsD roomW0) 0 = some (.s (ofB [119, 97, 118, 101, 115])) := rfl
 have gp : Good P F.penumbraref09_place [.d (.s (ofB [119, 97, 118, 101, 115]))] [] (.d (.i .i64 0)) [] := place9_good _ 0 (by decide) rfl
 have gn := nums0
 have hl : Ω .slen (strsD roomW0) = 2 := rfl
 have ht : Ω .ssub (strsD roomW0) 1 (Ω .nsub (Ω .slen (strsD roomW0)) 1) = strsD [[49]] := strs_tail _ _
 rw [← ht] at gn
 have hc := strs_cells roomW0
 have gz := zero3_good
 have w1 : Ω .wrap .i64 (Ω .ci (Ω .slen (strsD roomW0)) - 1) = 1 := by rw [hl]; rfl
 have xL : Ω .sget ([.i .i64 1, .i .i64 3, .i .i64 3, .i .i64 3, .i .i64 10, .i .i64 1, .i .i64 1, .i .i64 3, .i .i64 1] : List D) 0 = some (.i .i64 1) := rfl
 have qa : Ω .lt (Ω .wrap .i64 (Ω .ci (Ω .slen (strsD roomW0)) - 1)) 1 = false := by rw [w1]; rfl
 have qb : Ω .lt 1 (Ω .wrap .i64 (Ω .ci (Ω .slen (strsD roomW0)) - 1)) = false := by rw [w1]; rfl
 have hlx : Ω .slen (crsD [mkRat 1 1]) = 1 := rfl
 have y0 : Ω .sget (crsD [mkRat 1 1]) 0 = some (.agg (dR Ψ (Ψ .cr (mkRat 1 1)))) := sget_crsD rfl
 generalize strsD roomW0 = WD at *
 generalize ofB [119, 97, 118, 101, 115] = HB at *
 generalize crsD [mkRat 1 1] = XD at *
 generalize rv3 0 0 1 = E001 at *
 refine rt ?_
 exact ⟨[], rfl, rfl, rfl⟩
theorem line1 : Good P F.penumbraref09_line [.agg (stf (.d (.sl (crsD [mkRat 1 1]))) (.own 0 8) (.own 1 28) z9c z9c 0 0 z3c true false false false), .d (.sl (strsD roomW1))] [.row true T.api_Mat 8 [], .row true T.api_Face 28 []]
  (.tup [.agg (stf (.d (.sl (crsD [mkRat 1 1]))) (.own 0 8) (.own 1 28) ((dV Ψ (rv3 0 0 1)).map V.d) z9c 0 0 z3c true true false false), .d (.i .i64 0)]) [.row true T.api_Mat 8 [], .row true T.api_Face 28 []] := by
 refine G.penumbraref09_line (hb := of_decide_eq_true rfl) fun C C2 hC hC2 => ?_
 have x0 : Ω .sget (strsD roomW1) 0 = some (.s (ofB [101, 121, 101])) := rfl
 have gp : Good P F.penumbraref09_place [.d (.s (ofB [101, 121, 101]))] [] (.d (.i .i64 1)) [] := place9_good _ 1 (by decide) rfl
 have gn := nums1
 have hl : Ω .slen (strsD roomW1) = 4 := rfl
 have ht : Ω .ssub (strsD roomW1) 1 (Ω .nsub (Ω .slen (strsD roomW1)) 1) = strsD [[48], [48], [49]] := strs_tail _ _
 rw [← ht] at gn
 have hc := strs_cells roomW1
 have gz := zero3_good
 have w1 : Ω .wrap .i64 (Ω .ci (Ω .slen (strsD roomW1)) - 1) = 3 := by rw [hl]; rfl
 have xL : Ω .sget ([.i .i64 1, .i .i64 3, .i .i64 3, .i .i64 3, .i .i64 10, .i .i64 1, .i .i64 1, .i .i64 3, .i .i64 1] : List D) 1 = some (.i .i64 3) := rfl
 have qa : Ω .lt (Ω .wrap .i64 (Ω .ci (Ω .slen (strsD roomW1)) - 1)) 3 = false := by rw [w1]; rfl
 have qb : Ω .lt 3 (Ω .wrap .i64 (Ω .ci (Ω .slen (strsD roomW1)) - 1)) = false := by rw [w1]; rfl
 have hlx : Ω .slen (crsD [mkRat 0 1, mkRat 0 1, mkRat 1 1]) = 3 := rfl
 have y0 : Ω .sget (crsD [mkRat 0 1, mkRat 0 1, mkRat 1 1]) 0 = some (.agg (dR Ψ (Ψ .cr (mkRat 0 1)))) := sget_crsD rfl
 have y1 : Ω .sget (crsD [mkRat 0 1, mkRat 0 1, mkRat 1 1]) 1 = some (.agg (dR Ψ (Ψ .cr (mkRat 0 1)))) := sget_crsD rfl
 have y2 : Ω .sget (crsD [mkRat 0 1, mkRat 0 1, mkRat 1 1]) 2 = some (.agg (dR Ψ (Ψ .cr (mkRat 1 1)))) := sget_crsD rfl
 have gv : Good P F.penumbraref09_vec [.d (.sl (crsD [mkRat 0 1, mkRat 0 1, mkRat 1 1])), .d (.i .i64 0)] [] (.d (.agg (dV Ψ (rv3 0 0 1)))) [] := vec9_good (crsD [mkRat 0 1, mkRat 0 1, mkRat 1 1]) 0 0 rfl (by omega) _ _ _ y0 y1 y2
 generalize strsD roomW1 = WD at *
 generalize ofB [101, 121, 101] = HB at *
 generalize crsD [mkRat 0 1, mkRat 0 1, mkRat 1 1] = XD at *
 generalize crsD [mkRat 1 1] = WV at *
 generalize rv3 0 0 1 = E001 at *
 refine rt ?_
 exact ⟨[], rfl, rfl, rfl⟩
theorem line2 : Good P F.penumbraref09_line [.agg (stf (.d (.sl (crsD [mkRat 1 1]))) (.own 0 8) (.own 1 28) ((dV Ψ (rv3 0 0 1)).map V.d) z9c 0 0 z3c true true false false), .d (.sl (strsD roomW2))] [.row true T.api_Mat 8 [], .row true T.api_Face 28 []]
  (.tup [.agg (stf (.d (.sl (crsD [mkRat 1 1]))) (.own 0 8) (.own 1 28) ((dV Ψ (rv3 0 0 1)).map V.d) ((dV Ψ (rv3 0 0 1)).map V.d) 0 0 z3c true true true false), .d (.i .i64 0)]) [.row true T.api_Mat 8 [], .row true T.api_Face 28 []] := by
 refine G.penumbraref09_line (hb := of_decide_eq_true rfl) fun C C2 hC hC2 => ?_
 have x0 : Ω .sget (strsD roomW2) 0 = some (.s (ofB [108, 111, 111, 107])) := rfl
 have gp : Good P F.penumbraref09_place [.d (.s (ofB [108, 111, 111, 107]))] [] (.d (.i .i64 2)) [] := place9_good _ 2 (by decide) rfl
 have gn := nums2
 have hl : Ω .slen (strsD roomW2) = 4 := rfl
 have ht : Ω .ssub (strsD roomW2) 1 (Ω .nsub (Ω .slen (strsD roomW2)) 1) = strsD [[48], [48], [49]] := strs_tail _ _
 rw [← ht] at gn
 have hc := strs_cells roomW2
 have gz := zero3_good
 have w1 : Ω .wrap .i64 (Ω .ci (Ω .slen (strsD roomW2)) - 1) = 3 := by rw [hl]; rfl
 have xL : Ω .sget ([.i .i64 1, .i .i64 3, .i .i64 3, .i .i64 3, .i .i64 10, .i .i64 1, .i .i64 1, .i .i64 3, .i .i64 1] : List D) 2 = some (.i .i64 3) := rfl
 have qa : Ω .lt (Ω .wrap .i64 (Ω .ci (Ω .slen (strsD roomW2)) - 1)) 3 = false := by rw [w1]; rfl
 have qb : Ω .lt 3 (Ω .wrap .i64 (Ω .ci (Ω .slen (strsD roomW2)) - 1)) = false := by rw [w1]; rfl
 have hlx : Ω .slen (crsD [mkRat 0 1, mkRat 0 1, mkRat 1 1]) = 3 := rfl
 have y0 : Ω .sget (crsD [mkRat 0 1, mkRat 0 1, mkRat 1 1]) 0 = some (.agg (dR Ψ (Ψ .cr (mkRat 0 1)))) := sget_crsD rfl
 have y1 : Ω .sget (crsD [mkRat 0 1, mkRat 0 1, mkRat 1 1]) 1 = some (.agg (dR Ψ (Ψ .cr (mkRat 0 1)))) := sget_crsD rfl
 have y2 : Ω .sget (crsD [mkRat 0 1, mkRat 0 1, mkRat 1 1]) 2 = some (.agg (dR Ψ (Ψ .cr (mkRat 1 1)))) := sget_crsD rfl
 have gv : Good P F.penumbraref09_vec [.d (.sl (crsD [mkRat 0 1, mkRat 0 1, mkRat 1 1])), .d (.i .i64 0)] [] (.d (.agg (dV Ψ (rv3 0 0 1)))) [] := vec9_good (crsD [mkRat 0 1, mkRat 0 1, mkRat 1 1]) 0 0 rfl (by omega) _ _ _ y0 y1 y2
 generalize strsD roomW2 = WD at *
 generalize ofB [108, 111, 111, 107] = HB at *
 generalize crsD [mkRat 0 1, mkRat 0 1, mkRat 1 1] = XD at *
 generalize crsD [mkRat 1 1] = WV at *
 generalize rv3 0 0 1 = E001 at *
 refine rt ?_
 exact ⟨[], rfl, rfl, rfl⟩
theorem line3 : Good P F.penumbraref09_line [.agg (stf (.d (.sl (crsD [mkRat 1 1]))) (.own 0 8) (.own 1 28) ((dV Ψ (rv3 0 0 1)).map V.d) ((dV Ψ (rv3 0 0 1)).map V.d) 0 0 z3c true true true false), .d (.sl (strsD roomW3))] [.row true T.api_Mat 8 [], .row true T.api_Face 28 []]
  (.tup [.agg (stf (.d (.sl (crsD [mkRat 1 1]))) (.own 0 8) (.own 1 28) ((dV Ψ (rv3 0 0 1)).map V.d) ((dV Ψ (rv3 0 0 1)).map V.d) 1 1 ((dR Ψ (Ψ .cr (mkRat 1 1))).map V.d) true true true true), .d (.i .i64 0)]) [.row true T.api_Mat 8 [], .row true T.api_Face 28 []] := by
 refine G.penumbraref09_line (hb := of_decide_eq_true rfl) fun C C2 hC hC2 => ?_
 have x0 : Ω .sget (strsD roomW3) 0 = some (.s (ofB [102, 105, 108, 109])) := rfl
 have gp : Good P F.penumbraref09_place [.d (.s (ofB [102, 105, 108, 109]))] [] (.d (.i .i64 3)) [] := place9_good _ 3 (by decide) rfl
 have gn := nums3
 have hl : Ω .slen (strsD roomW3) = 4 := rfl
 have ht : Ω .ssub (strsD roomW3) 1 (Ω .nsub (Ω .slen (strsD roomW3)) 1) = strsD [[49], [49], [49]] := strs_tail _ _
 rw [← ht] at gn
 have hc := strs_cells roomW3
 have gz := zero3_good
 have w1 : Ω .wrap .i64 (Ω .ci (Ω .slen (strsD roomW3)) - 1) = 3 := by rw [hl]; rfl
 have xL : Ω .sget ([.i .i64 1, .i .i64 3, .i .i64 3, .i .i64 3, .i .i64 10, .i .i64 1, .i .i64 1, .i .i64 3, .i .i64 1] : List D) 3 = some (.i .i64 3) := rfl
 have qa : Ω .lt (Ω .wrap .i64 (Ω .ci (Ω .slen (strsD roomW3)) - 1)) 3 = false := by rw [w1]; rfl
 have qb : Ω .lt 3 (Ω .wrap .i64 (Ω .ci (Ω .slen (strsD roomW3)) - 1)) = false := by rw [w1]; rfl
 have hlx : Ω .slen (crsD [mkRat 1 1, mkRat 1 1, mkRat 1 1]) = 3 := rfl
 have y0 : Ω .sget (crsD [mkRat 1 1, mkRat 1 1, mkRat 1 1]) 0 = some (.agg (dR Ψ (Ψ .cr (mkRat 1 1)))) := sget_crsD rfl
 have y1 : Ω .sget (crsD [mkRat 1 1, mkRat 1 1, mkRat 1 1]) 1 = some (.agg (dR Ψ (Ψ .cr (mkRat 1 1)))) := sget_crsD rfl
 have y2 : Ω .sget (crsD [mkRat 1 1, mkRat 1 1, mkRat 1 1]) 2 = some (.agg (dR Ψ (Ψ .cr (mkRat 1 1)))) := sget_crsD rfl
 have gw := w1_good
 generalize strsD roomW3 = WD at *
 generalize ofB [102, 105, 108, 109] = HB at *
 generalize crsD [mkRat 1 1, mkRat 1 1, mkRat 1 1] = XD at *
 generalize crsD [mkRat 1 1] = WV at *
 generalize rv3 0 0 1 = E001 at *
 refine rt ?_
 exact ⟨[], rfl, rfl, rfl⟩
theorem line4 : Good P F.penumbraref09_line [.agg (stf (.d (.sl (crsD [mkRat 1 1]))) (.own 0 8) (.own 1 28) ((dV Ψ (rv3 0 0 1)).map V.d) ((dV Ψ (rv3 0 0 1)).map V.d) 1 1 ((dR Ψ (Ψ .cr (mkRat 1 1))).map V.d) true true true true), .d (.sl (strsD roomW4))] [.row true T.api_Mat 8 [], .row true T.api_Face 28 []]
  (.tup [.agg (stf (.d (.sl (crsD [mkRat 1 1]))) (.own 2 8) (.own 1 28) ((dV Ψ (rv3 0 0 1)).map V.d) ((dV Ψ (rv3 0 0 1)).map V.d) 1 1 ((dR Ψ (Ψ .cr (mkRat 1 1))).map V.d) true true true true), .d (.i .i64 0)]) [.dead, .row true T.api_Face 28 [], .row true T.api_Mat 8 (matsD [rMat0])] := by
 refine G.penumbraref09_line (hb := of_decide_eq_true rfl) fun C C2 hC hC2 => ?_
 rw [show matsD [rMat0] = [(.agg (.i .i64 0 :: .sl (crsD [mkRat 1 8]) :: (dR Ψ (Ψ .cr 0) ++ dR Ψ (Ψ .cr 0))) : D)] from rfl]
 have x0 : Ω .sget (strsD roomW4) 0 = some (.s (ofB [100, 105, 102, 102, 117, 115, 101])) := rfl
 have gp : Good P F.penumbraref09_place [.d (.s (ofB [100, 105, 102, 102, 117, 115, 101]))] [] (.d (.i .i64 5)) [] := place9_good _ 5 (by decide) rfl
 have gn := nums4
 have hl : Ω .slen (strsD roomW4) = 2 := rfl
 have ht : Ω .ssub (strsD roomW4) 1 (Ω .nsub (Ω .slen (strsD roomW4)) 1) = strsD [[49, 47, 56]] := strs_tail _ _
 rw [← ht] at gn
 have hc := strs_cells roomW4
 have gz := zero3_good
 have w1 : Ω .wrap .i64 (Ω .ci (Ω .slen (strsD roomW4)) - 1) = 1 := by rw [hl]; rfl
 have xL : Ω .sget ([.i .i64 1, .i .i64 3, .i .i64 3, .i .i64 3, .i .i64 10, .i .i64 1, .i .i64 1, .i .i64 3, .i .i64 1] : List D) 5 = some (.i .i64 1) := rfl
 have qa : Ω .lt (Ω .wrap .i64 (Ω .ci (Ω .slen (strsD roomW4)) - 1)) 1 = false := by rw [w1]; rfl
 have qb : Ω .lt 1 (Ω .wrap .i64 (Ω .ci (Ω .slen (strsD roomW4)) - 1)) = false := by rw [w1]; rfl
 have hlx : Ω .slen (crsD [mkRat 1 8]) = 1 := rfl
 have y0 : Ω .sget (crsD [mkRat 1 8]) 0 = some (.agg (dR Ψ (Ψ .cr (mkRat 1 8)))) := sget_crsD rfl
 generalize strsD roomW4 = WD at *
 generalize ofB [100, 105, 102, 102, 117, 115, 101] = HB at *
 generalize crsD [mkRat 1 8] = XD at *
 generalize crsD [mkRat 1 1] = WV at *
 generalize rv3 0 0 1 = E001 at *
 refine rt ?_
 exact ⟨[2805], rfl, rfl, rfl⟩
theorem line5 : Good P F.penumbraref09_line [.agg (stf (.d (.sl (crsD [mkRat 1 1]))) (.own 0 8) (.own 1 28) ((dV Ψ (rv3 0 0 1)).map V.d) ((dV Ψ (rv3 0 0 1)).map V.d) 1 1 ((dR Ψ (Ψ .cr (mkRat 1 1))).map V.d) true true true true), .d (.sl (strsD roomW5))] [.row true T.api_Mat 8 (matsD [rMat0]), .row true T.api_Face 28 []]
  (.tup [.agg (stf (.d (.sl (crsD [mkRat 1 1]))) (.own 2 8) (.own 1 28) ((dV Ψ (rv3 0 0 1)).map V.d) ((dV Ψ (rv3 0 0 1)).map V.d) 1 1 ((dR Ψ (Ψ .cr (mkRat 1 1))).map V.d) true true true true), .d (.i .i64 0)]) [.dead, .row true T.api_Face 28 [], .row true T.api_Mat 8 (matsD [rMat0, rMat1])] := by
 refine G.penumbraref09_line (hb := of_decide_eq_true rfl) fun C C2 hC hC2 => ?_
 rw [show matsD [rMat0, rMat1] = [(.agg (.i .i64 0 :: .sl (crsD [mkRat 1 8]) :: (dR Ψ (Ψ .cr 0) ++ dR Ψ (Ψ .cr 0))) : D), (.agg (.i .i64 1 :: .sl (crsD [mkRat 1 2]) :: (dR Ψ (Ψ .cr 0) ++ dR Ψ (Ψ .cr 0))) : D)] from rfl]
 rw [show matsD [rMat0] = [(.agg (.i .i64 0 :: .sl (crsD [mkRat 1 8]) :: (dR Ψ (Ψ .cr 0) ++ dR Ψ (Ψ .cr 0))) : D)] from rfl]
 have x0 : Ω .sget (strsD roomW5) 0 = some (.s (ofB [109, 105, 114, 114, 111, 114])) := rfl
 have gp : Good P F.penumbraref09_place [.d (.s (ofB [109, 105, 114, 114, 111, 114]))] [] (.d (.i .i64 6)) [] := place9_good _ 6 (by decide) rfl
 have gn := nums5
 have hl : Ω .slen (strsD roomW5) = 2 := rfl
 have ht : Ω .ssub (strsD roomW5) 1 (Ω .nsub (Ω .slen (strsD roomW5)) 1) = strsD [[49, 47, 50]] := strs_tail _ _
 rw [← ht] at gn
 have hc := strs_cells roomW5
 have gz := zero3_good
 have w1 : Ω .wrap .i64 (Ω .ci (Ω .slen (strsD roomW5)) - 1) = 1 := by rw [hl]; rfl
 have xL : Ω .sget ([.i .i64 1, .i .i64 3, .i .i64 3, .i .i64 3, .i .i64 10, .i .i64 1, .i .i64 1, .i .i64 3, .i .i64 1] : List D) 6 = some (.i .i64 1) := rfl
 have qa : Ω .lt (Ω .wrap .i64 (Ω .ci (Ω .slen (strsD roomW5)) - 1)) 1 = false := by rw [w1]; rfl
 have qb : Ω .lt 1 (Ω .wrap .i64 (Ω .ci (Ω .slen (strsD roomW5)) - 1)) = false := by rw [w1]; rfl
 have hlx : Ω .slen (crsD [mkRat 1 2]) = 1 := rfl
 have y0 : Ω .sget (crsD [mkRat 1 2]) 0 = some (.agg (dR Ψ (Ψ .cr (mkRat 1 2)))) := sget_crsD rfl
 generalize strsD roomW5 = WD at *
 generalize ofB [109, 105, 114, 114, 111, 114] = HB at *
 generalize crsD [mkRat 1 2] = XD at *
 generalize crsD [mkRat 1 1] = WV at *
 generalize crsD [mkRat 1 8] = X8 at *
 generalize rv3 0 0 1 = E001 at *
 refine rt ?_
 exact ⟨[2805], rfl, rfl, rfl⟩
theorem line6 : Good P F.penumbraref09_line [.agg (stf (.d (.sl (crsD [mkRat 1 1]))) (.own 0 8) (.own 1 28) ((dV Ψ (rv3 0 0 1)).map V.d) ((dV Ψ (rv3 0 0 1)).map V.d) 1 1 ((dR Ψ (Ψ .cr (mkRat 1 1))).map V.d) true true true true), .d (.sl (strsD roomW6))] [.row true T.api_Mat 8 (matsD [rMat0, rMat1]), .row true T.api_Face 28 []]
  (.tup [.agg (stf (.d (.sl (crsD [mkRat 1 1]))) (.own 0 8) (.own 2 28) ((dV Ψ (rv3 0 0 1)).map V.d) ((dV Ψ (rv3 0 0 1)).map V.d) 1 1 ((dR Ψ (Ψ .cr (mkRat 1 1))).map V.d) true true true true), .d (.i .i64 0)]) [.row true T.api_Mat 8 (matsD [rMat0, rMat1]), .dead, .row true T.api_Face 28 (facesD [rFace0])] := by
 refine G.penumbraref09_line (hb := of_decide_eq_true rfl) fun C C2 hC hC2 => ?_
 rw [show facesD [rFace0] = [(.agg (dV Ψ (rv3 (-9) (-9) 0) ++ dV Ψ (rv3 18 (-9) 0) ++ dV Ψ (rv3 (-9) 18 0) ++ [.i .i64 0]) : D)] from rfl]
 have x0 : Ω .sget (strsD roomW6) 0 = some (.s (ofB [116, 114, 105])) := rfl
 have gp : Good P F.penumbraref09_place [.d (.s (ofB [116, 114, 105]))] [] (.d (.i .i64 4)) [] := place9_good _ 4 (by decide) rfl
 have gn := nums6
 have hl : Ω .slen (strsD roomW6) = 11 := rfl
 have ht : Ω .ssub (strsD roomW6) 1 (Ω .nsub (Ω .slen (strsD roomW6)) 1) = strsD [[48], [45, 57], [45, 57], [48], [49, 56], [45, 57], [48], [45, 57], [49, 56], [48]] := strs_tail _ _
 rw [← ht] at gn
 have hc := strs_cells roomW6
 have gz := zero3_good
 have w1 : Ω .wrap .i64 (Ω .ci (Ω .slen (strsD roomW6)) - 1) = 10 := by rw [hl]; rfl
 have xL : Ω .sget ([.i .i64 1, .i .i64 3, .i .i64 3, .i .i64 3, .i .i64 10, .i .i64 1, .i .i64 1, .i .i64 3, .i .i64 1] : List D) 4 = some (.i .i64 10) := rfl
 have qa : Ω .lt (Ω .wrap .i64 (Ω .ci (Ω .slen (strsD roomW6)) - 1)) 10 = false := by rw [w1]; rfl
 have qb : Ω .lt 10 (Ω .wrap .i64 (Ω .ci (Ω .slen (strsD roomW6)) - 1)) = false := by rw [w1]; rfl
 have hlx : Ω .slen (crsD [mkRat 0 1, mkRat (-9) 1, mkRat (-9) 1, mkRat 0 1, mkRat 18 1, mkRat (-9) 1, mkRat 0 1, mkRat (-9) 1, mkRat 18 1, mkRat 0 1]) = 10 := rfl
 have y0 : Ω .sget (crsD [mkRat 0 1, mkRat (-9) 1, mkRat (-9) 1, mkRat 0 1, mkRat 18 1, mkRat (-9) 1, mkRat 0 1, mkRat (-9) 1, mkRat 18 1, mkRat 0 1]) 0 = some (.agg (dR Ψ (Ψ .cr (mkRat 0 1)))) := sget_crsD rfl
 have y1 : Ω .sget (crsD [mkRat 0 1, mkRat (-9) 1, mkRat (-9) 1, mkRat 0 1, mkRat 18 1, mkRat (-9) 1, mkRat 0 1, mkRat (-9) 1, mkRat 18 1, mkRat 0 1]) 1 = some (.agg (dR Ψ (Ψ .cr (mkRat (-9) 1)))) := sget_crsD rfl
 have y2 : Ω .sget (crsD [mkRat 0 1, mkRat (-9) 1, mkRat (-9) 1, mkRat 0 1, mkRat 18 1, mkRat (-9) 1, mkRat 0 1, mkRat (-9) 1, mkRat 18 1, mkRat 0 1]) 2 = some (.agg (dR Ψ (Ψ .cr (mkRat (-9) 1)))) := sget_crsD rfl
 have y3 : Ω .sget (crsD [mkRat 0 1, mkRat (-9) 1, mkRat (-9) 1, mkRat 0 1, mkRat 18 1, mkRat (-9) 1, mkRat 0 1, mkRat (-9) 1, mkRat 18 1, mkRat 0 1]) 3 = some (.agg (dR Ψ (Ψ .cr (mkRat 0 1)))) := sget_crsD rfl
 have y4 : Ω .sget (crsD [mkRat 0 1, mkRat (-9) 1, mkRat (-9) 1, mkRat 0 1, mkRat 18 1, mkRat (-9) 1, mkRat 0 1, mkRat (-9) 1, mkRat 18 1, mkRat 0 1]) 4 = some (.agg (dR Ψ (Ψ .cr (mkRat 18 1)))) := sget_crsD rfl
 have y5 : Ω .sget (crsD [mkRat 0 1, mkRat (-9) 1, mkRat (-9) 1, mkRat 0 1, mkRat 18 1, mkRat (-9) 1, mkRat 0 1, mkRat (-9) 1, mkRat 18 1, mkRat 0 1]) 5 = some (.agg (dR Ψ (Ψ .cr (mkRat (-9) 1)))) := sget_crsD rfl
 have y6 : Ω .sget (crsD [mkRat 0 1, mkRat (-9) 1, mkRat (-9) 1, mkRat 0 1, mkRat 18 1, mkRat (-9) 1, mkRat 0 1, mkRat (-9) 1, mkRat 18 1, mkRat 0 1]) 6 = some (.agg (dR Ψ (Ψ .cr (mkRat 0 1)))) := sget_crsD rfl
 have y7 : Ω .sget (crsD [mkRat 0 1, mkRat (-9) 1, mkRat (-9) 1, mkRat 0 1, mkRat 18 1, mkRat (-9) 1, mkRat 0 1, mkRat (-9) 1, mkRat 18 1, mkRat 0 1]) 7 = some (.agg (dR Ψ (Ψ .cr (mkRat (-9) 1)))) := sget_crsD rfl
 have y8 : Ω .sget (crsD [mkRat 0 1, mkRat (-9) 1, mkRat (-9) 1, mkRat 0 1, mkRat 18 1, mkRat (-9) 1, mkRat 0 1, mkRat (-9) 1, mkRat 18 1, mkRat 0 1]) 8 = some (.agg (dR Ψ (Ψ .cr (mkRat 18 1)))) := sget_crsD rfl
 have y9 : Ω .sget (crsD [mkRat 0 1, mkRat (-9) 1, mkRat (-9) 1, mkRat 0 1, mkRat 18 1, mkRat (-9) 1, mkRat 0 1, mkRat (-9) 1, mkRat 18 1, mkRat 0 1]) 9 = some (.agg (dR Ψ (Ψ .cr (mkRat 0 1)))) := sget_crsD rfl
 have gw := w0_good
 have gv1 : Good P F.penumbraref09_vec [.d (.sl (crsD [mkRat 0 1, mkRat (-9) 1, mkRat (-9) 1, mkRat 0 1, mkRat 18 1, mkRat (-9) 1, mkRat 0 1, mkRat (-9) 1, mkRat 18 1, mkRat 0 1])), .d (.i .i64 1)] [] (.d (.agg (dV Ψ (rv3 (-9) (-9) 0)))) [] := vec9_good (crsD [mkRat 0 1, mkRat (-9) 1, mkRat (-9) 1, mkRat 0 1, mkRat 18 1, mkRat (-9) 1, mkRat 0 1, mkRat (-9) 1, mkRat 18 1, mkRat 0 1]) 1 1 rfl (by omega) _ _ _ y1 y2 y3
 have gv4 : Good P F.penumbraref09_vec [.d (.sl (crsD [mkRat 0 1, mkRat (-9) 1, mkRat (-9) 1, mkRat 0 1, mkRat 18 1, mkRat (-9) 1, mkRat 0 1, mkRat (-9) 1, mkRat 18 1, mkRat 0 1])), .d (.i .i64 4)] [] (.d (.agg (dV Ψ (rv3 18 (-9) 0)))) [] := vec9_good (crsD [mkRat 0 1, mkRat (-9) 1, mkRat (-9) 1, mkRat 0 1, mkRat 18 1, mkRat (-9) 1, mkRat 0 1, mkRat (-9) 1, mkRat 18 1, mkRat 0 1]) 4 4 rfl (by omega) _ _ _ y4 y5 y6
 have gv7 : Good P F.penumbraref09_vec [.d (.sl (crsD [mkRat 0 1, mkRat (-9) 1, mkRat (-9) 1, mkRat 0 1, mkRat 18 1, mkRat (-9) 1, mkRat 0 1, mkRat (-9) 1, mkRat 18 1, mkRat 0 1])), .d (.i .i64 7)] [] (.d (.agg (dV Ψ (rv3 (-9) 18 0)))) [] := vec9_good (crsD [mkRat 0 1, mkRat (-9) 1, mkRat (-9) 1, mkRat 0 1, mkRat 18 1, mkRat (-9) 1, mkRat 0 1, mkRat (-9) 1, mkRat 18 1, mkRat 0 1]) 7 7 rfl (by omega) _ _ _ y7 y8 y9
 generalize strsD roomW6 = WD at *
 generalize ofB [116, 114, 105] = HB at *
 generalize crsD [mkRat 0 1, mkRat (-9) 1, mkRat (-9) 1, mkRat 0 1, mkRat 18 1, mkRat (-9) 1, mkRat 0 1, mkRat (-9) 1, mkRat 18 1, mkRat 0 1] = XD at *
 generalize crsD [mkRat 1 1] = WV at *
 generalize rv3 0 0 1 = E001 at *
 generalize matsD [rMat0, rMat1] = MM at *
 generalize rv3 (-9) (-9) 0 = Vm_m_0 at *
 generalize rv3 18 (-9) 0 = V18_m_0 at *
 generalize rv3 (-9) 18 0 = Vm_18_0 at *
 generalize rv3 (-9) (-9) 2 = Vm_m_2 at *
 generalize rv3 (-9) 18 2 = Vm_18_2 at *
 generalize rv3 18 (-9) 2 = V18_m_2 at *
 refine rt ?_
 exact ⟨[4405], rfl, rfl, rfl⟩
theorem line7 : Good P F.penumbraref09_line [.agg (stf (.d (.sl (crsD [mkRat 1 1]))) (.own 0 8) (.own 1 28) ((dV Ψ (rv3 0 0 1)).map V.d) ((dV Ψ (rv3 0 0 1)).map V.d) 1 1 ((dR Ψ (Ψ .cr (mkRat 1 1))).map V.d) true true true true), .d (.sl (strsD roomW7))] [.row true T.api_Mat 8 (matsD [rMat0, rMat1]), .row true T.api_Face 28 (facesD [rFace0])]
  (.tup [.agg (stf (.d (.sl (crsD [mkRat 1 1]))) (.own 0 8) (.own 2 28) ((dV Ψ (rv3 0 0 1)).map V.d) ((dV Ψ (rv3 0 0 1)).map V.d) 1 1 ((dR Ψ (Ψ .cr (mkRat 1 1))).map V.d) true true true true), .d (.i .i64 0)]) [.row true T.api_Mat 8 (matsD [rMat0, rMat1]), .dead, .row true T.api_Face 28 (facesD [rFace0, rFace1])] := by
 refine G.penumbraref09_line (hb := of_decide_eq_true rfl) fun C C2 hC hC2 => ?_
 rw [show facesD [rFace0, rFace1] = [(.agg (dV Ψ (rv3 (-9) (-9) 0) ++ dV Ψ (rv3 18 (-9) 0) ++ dV Ψ (rv3 (-9) 18 0) ++ [.i .i64 0]) : D), (.agg (dV Ψ (rv3 (-9) (-9) 2) ++ dV Ψ (rv3 (-9) 18 2) ++ dV Ψ (rv3 18 (-9) 2) ++ [.i .i64 1]) : D)] from rfl]
 rw [show facesD [rFace0] = [(.agg (dV Ψ (rv3 (-9) (-9) 0) ++ dV Ψ (rv3 18 (-9) 0) ++ dV Ψ (rv3 (-9) 18 0) ++ [.i .i64 0]) : D)] from rfl]
 have x0 : Ω .sget (strsD roomW7) 0 = some (.s (ofB [116, 114, 105])) := rfl
 have gp : Good P F.penumbraref09_place [.d (.s (ofB [116, 114, 105]))] [] (.d (.i .i64 4)) [] := place9_good _ 4 (by decide) rfl
 have gn := nums7
 have hl : Ω .slen (strsD roomW7) = 11 := rfl
 have ht : Ω .ssub (strsD roomW7) 1 (Ω .nsub (Ω .slen (strsD roomW7)) 1) = strsD [[49], [45, 57], [45, 57], [50], [45, 57], [49, 56], [50], [49, 56], [45, 57], [50]] := strs_tail _ _
 rw [← ht] at gn
 have hc := strs_cells roomW7
 have gz := zero3_good
 have w1 : Ω .wrap .i64 (Ω .ci (Ω .slen (strsD roomW7)) - 1) = 10 := by rw [hl]; rfl
 have xL : Ω .sget ([.i .i64 1, .i .i64 3, .i .i64 3, .i .i64 3, .i .i64 10, .i .i64 1, .i .i64 1, .i .i64 3, .i .i64 1] : List D) 4 = some (.i .i64 10) := rfl
 have qa : Ω .lt (Ω .wrap .i64 (Ω .ci (Ω .slen (strsD roomW7)) - 1)) 10 = false := by rw [w1]; rfl
 have qb : Ω .lt 10 (Ω .wrap .i64 (Ω .ci (Ω .slen (strsD roomW7)) - 1)) = false := by rw [w1]; rfl
 have hlx : Ω .slen (crsD [mkRat 1 1, mkRat (-9) 1, mkRat (-9) 1, mkRat 2 1, mkRat (-9) 1, mkRat 18 1, mkRat 2 1, mkRat 18 1, mkRat (-9) 1, mkRat 2 1]) = 10 := rfl
 have y0 : Ω .sget (crsD [mkRat 1 1, mkRat (-9) 1, mkRat (-9) 1, mkRat 2 1, mkRat (-9) 1, mkRat 18 1, mkRat 2 1, mkRat 18 1, mkRat (-9) 1, mkRat 2 1]) 0 = some (.agg (dR Ψ (Ψ .cr (mkRat 1 1)))) := sget_crsD rfl
 have y1 : Ω .sget (crsD [mkRat 1 1, mkRat (-9) 1, mkRat (-9) 1, mkRat 2 1, mkRat (-9) 1, mkRat 18 1, mkRat 2 1, mkRat 18 1, mkRat (-9) 1, mkRat 2 1]) 1 = some (.agg (dR Ψ (Ψ .cr (mkRat (-9) 1)))) := sget_crsD rfl
 have y2 : Ω .sget (crsD [mkRat 1 1, mkRat (-9) 1, mkRat (-9) 1, mkRat 2 1, mkRat (-9) 1, mkRat 18 1, mkRat 2 1, mkRat 18 1, mkRat (-9) 1, mkRat 2 1]) 2 = some (.agg (dR Ψ (Ψ .cr (mkRat (-9) 1)))) := sget_crsD rfl
 have y3 : Ω .sget (crsD [mkRat 1 1, mkRat (-9) 1, mkRat (-9) 1, mkRat 2 1, mkRat (-9) 1, mkRat 18 1, mkRat 2 1, mkRat 18 1, mkRat (-9) 1, mkRat 2 1]) 3 = some (.agg (dR Ψ (Ψ .cr (mkRat 2 1)))) := sget_crsD rfl
 have y4 : Ω .sget (crsD [mkRat 1 1, mkRat (-9) 1, mkRat (-9) 1, mkRat 2 1, mkRat (-9) 1, mkRat 18 1, mkRat 2 1, mkRat 18 1, mkRat (-9) 1, mkRat 2 1]) 4 = some (.agg (dR Ψ (Ψ .cr (mkRat (-9) 1)))) := sget_crsD rfl
 have y5 : Ω .sget (crsD [mkRat 1 1, mkRat (-9) 1, mkRat (-9) 1, mkRat 2 1, mkRat (-9) 1, mkRat 18 1, mkRat 2 1, mkRat 18 1, mkRat (-9) 1, mkRat 2 1]) 5 = some (.agg (dR Ψ (Ψ .cr (mkRat 18 1)))) := sget_crsD rfl
 have y6 : Ω .sget (crsD [mkRat 1 1, mkRat (-9) 1, mkRat (-9) 1, mkRat 2 1, mkRat (-9) 1, mkRat 18 1, mkRat 2 1, mkRat 18 1, mkRat (-9) 1, mkRat 2 1]) 6 = some (.agg (dR Ψ (Ψ .cr (mkRat 2 1)))) := sget_crsD rfl
 have y7 : Ω .sget (crsD [mkRat 1 1, mkRat (-9) 1, mkRat (-9) 1, mkRat 2 1, mkRat (-9) 1, mkRat 18 1, mkRat 2 1, mkRat 18 1, mkRat (-9) 1, mkRat 2 1]) 7 = some (.agg (dR Ψ (Ψ .cr (mkRat 18 1)))) := sget_crsD rfl
 have y8 : Ω .sget (crsD [mkRat 1 1, mkRat (-9) 1, mkRat (-9) 1, mkRat 2 1, mkRat (-9) 1, mkRat 18 1, mkRat 2 1, mkRat 18 1, mkRat (-9) 1, mkRat 2 1]) 8 = some (.agg (dR Ψ (Ψ .cr (mkRat (-9) 1)))) := sget_crsD rfl
 have y9 : Ω .sget (crsD [mkRat 1 1, mkRat (-9) 1, mkRat (-9) 1, mkRat 2 1, mkRat (-9) 1, mkRat 18 1, mkRat 2 1, mkRat 18 1, mkRat (-9) 1, mkRat 2 1]) 9 = some (.agg (dR Ψ (Ψ .cr (mkRat 2 1)))) := sget_crsD rfl
 have gw := w1_good
 have gv1 : Good P F.penumbraref09_vec [.d (.sl (crsD [mkRat 1 1, mkRat (-9) 1, mkRat (-9) 1, mkRat 2 1, mkRat (-9) 1, mkRat 18 1, mkRat 2 1, mkRat 18 1, mkRat (-9) 1, mkRat 2 1])), .d (.i .i64 1)] [] (.d (.agg (dV Ψ (rv3 (-9) (-9) 2)))) [] := vec9_good (crsD [mkRat 1 1, mkRat (-9) 1, mkRat (-9) 1, mkRat 2 1, mkRat (-9) 1, mkRat 18 1, mkRat 2 1, mkRat 18 1, mkRat (-9) 1, mkRat 2 1]) 1 1 rfl (by omega) _ _ _ y1 y2 y3
 have gv4 : Good P F.penumbraref09_vec [.d (.sl (crsD [mkRat 1 1, mkRat (-9) 1, mkRat (-9) 1, mkRat 2 1, mkRat (-9) 1, mkRat 18 1, mkRat 2 1, mkRat 18 1, mkRat (-9) 1, mkRat 2 1])), .d (.i .i64 4)] [] (.d (.agg (dV Ψ (rv3 (-9) 18 2)))) [] := vec9_good (crsD [mkRat 1 1, mkRat (-9) 1, mkRat (-9) 1, mkRat 2 1, mkRat (-9) 1, mkRat 18 1, mkRat 2 1, mkRat 18 1, mkRat (-9) 1, mkRat 2 1]) 4 4 rfl (by omega) _ _ _ y4 y5 y6
 have gv7 : Good P F.penumbraref09_vec [.d (.sl (crsD [mkRat 1 1, mkRat (-9) 1, mkRat (-9) 1, mkRat 2 1, mkRat (-9) 1, mkRat 18 1, mkRat 2 1, mkRat 18 1, mkRat (-9) 1, mkRat 2 1])), .d (.i .i64 7)] [] (.d (.agg (dV Ψ (rv3 18 (-9) 2)))) [] := vec9_good (crsD [mkRat 1 1, mkRat (-9) 1, mkRat (-9) 1, mkRat 2 1, mkRat (-9) 1, mkRat 18 1, mkRat 2 1, mkRat 18 1, mkRat (-9) 1, mkRat 2 1]) 7 7 rfl (by omega) _ _ _ y7 y8 y9
 generalize strsD roomW7 = WD at *
 generalize ofB [116, 114, 105] = HB at *
 generalize crsD [mkRat 1 1, mkRat (-9) 1, mkRat (-9) 1, mkRat 2 1, mkRat (-9) 1, mkRat 18 1, mkRat 2 1, mkRat 18 1, mkRat (-9) 1, mkRat 2 1] = XD at *
 generalize crsD [mkRat 1 1] = WV at *
 generalize rv3 0 0 1 = E001 at *
 generalize matsD [rMat0, rMat1] = MM at *
 generalize rv3 (-9) (-9) 0 = Vm_m_0 at *
 generalize rv3 18 (-9) 0 = V18_m_0 at *
 generalize rv3 (-9) 18 0 = Vm_18_0 at *
 generalize rv3 (-9) (-9) 2 = Vm_m_2 at *
 generalize rv3 (-9) 18 2 = Vm_18_2 at *
 generalize rv3 18 (-9) 2 = V18_m_2 at *
 refine rt ?_
 exact ⟨[4405], rfl, rfl, rfl⟩
end Go.K.S
end
section
namespace Go.K
open Go
def bv (b : BL) : B3 := ⟨vv b.lo, vv b.hi⟩
theorem bv_cB (p : B3) : bv (Ψ .cB p) = p := by simp [bv, p_cB, vv_cV]
structure Bn (k : Nat) (b : BL) : Prop where
 lo : Vn k b.lo
 hi : Vn k b.hi
structure Bq (k : Nat) (p : B3) : Prop where
 lo : Pn k p.lo
 hi : Pn k p.hi
theorem Bn_cB {k : Nat} {p : B3} (h : Bq k p) : Bn k (Ψ .cB p) := ⟨Vn_cV h.lo, Vn_cV h.hi⟩
theorem Bq_bv {k : Nat} {b : BL} (h : Bn k b) (hk : 0 < k) : Bq k (bv b) := ⟨Pn_vv h.lo hk, Pn_vv h.hi hk⟩
theorem BL.ext_iff' {a b : BL} : a = b ↔ a.lo = b.lo ∧ a.hi = b.hi := by
 cases a; cases b; simp
instance : DecidableEq BL := fun _ _ => decidable_of_iff _ BL.ext_iff'.symm
theorem B3.ext_iff' {a b : B3} : a = b ↔ a.lo = b.lo ∧ a.hi = b.hi := by
 cases a; cases b; simp
instance : DecidableEq B3 := fun _ _ => decidable_of_iff _ B3.ext_iff'.symm
def rmin (p q : Rat) : Rat := if p ≤ q then p else q
def rmax (p q : Rat) : Rat := if q ≤ p then p else q
theorem Qn_min {k : Nat} {p q : Rat} (hp : Qn k p) (hq : Qn k q) : Qn k (rmin p q) := by unfold rmin; split <;> assumption
theorem Qn_max {k : Nat} {p q : Rat} (hp : Qn k p) (hq : Qn k q) : Qn k (rmax p q) := by unfold rmax; split <;> assumption
def vmin (p q : V3) : V3 := ⟨rmin p.x q.x, rmin p.y q.y, rmin p.z q.z⟩
def vmax (p q : V3) : V3 := ⟨rmax p.x q.x, rmax p.y q.y, rmax p.z q.z⟩
def bjoin (a b : B3) : B3 := ⟨vmin a.lo b.lo, vmax a.hi b.hi⟩
def b0 : B3 := ⟨v0, v0⟩
theorem rmin_self (p : Rat) : rmin p p = p := by simp [rmin]
theorem rmax_self (p : Rat) : rmax p p = p := by simp [rmax]
theorem Pn_min {k : Nat} {p q : V3} (hp : Pn k p) (hq : Pn k q) : Pn k (vmin p q) := ⟨Qn_min hp.x hq.x, Qn_min hp.y hq.y, Qn_min hp.z hq.z⟩
theorem Pn_max {k : Nat} {p q : V3} (hp : Pn k p) (hq : Pn k q) : Pn k (vmax p q) := ⟨Qn_max hp.x hq.x, Qn_max hp.y hq.y, Qn_max hp.z hq.z⟩
theorem Bq_join {k : Nat} {p q : B3} (hp : Bq k p) (hq : Bq k q) : Bq k (bjoin p q) := ⟨Pn_min hp.lo hq.lo, Pn_max hp.hi hq.hi⟩
theorem Bq_b0 {k : Nat} (hk : 0 < k) : Bq k b0 := ⟨Pn_v0 hk, Pn_v0 hk⟩
def bjoins : List BL → B3
 | [] => b0
 | b :: r => (r.map bv).foldl bjoin (bv b)
theorem bjoins_snoc (l : List BL) (b : BL) (h : l ≠ []) : bjoins (l ++ [b]) = bjoin (bjoins l) (bv b) := by
 cases l with
 | nil => exact absurd rfl h
 | cons a l => simp [bjoins]
theorem Bq_joins {k : Nat} (hk : 0 < k) : ∀ (l : List BL), (∀ b, b ∈ l → Bn k b) → Bq k (bjoins l)
 | [], _ => Bq_b0 hk
 | b :: r, h => by
  have key : ∀ (r : List BL) (s : B3), Bq k s → (∀ b, b ∈ r → Bn k b) → Bq k ((r.map bv).foldl bjoin s) := fun r => by
   induction r with
   | nil => intro s hs _; exact hs
   | cons c r ih => intro s hs hr; exact ih _ (Bq_join hs (Bq_bv (hr c (by simp)) hk)) (fun b hb => hr b (by simp [hb]))
  exact key r _ (Bq_bv (h b (by simp)) hk) (fun c hc => h c (by simp [hc]))
theorem sget_dBs (l : List BL) (k : Nat) : Ω .sget (Ψ .dBs l) k = (l[k]?).map fun r => (D.agg (dB Ψ r) : D) := by simp [w_sget, p_dBs]
theorem scat_dBs (l m : List BL) : Ω .scat (Ψ .dBs l) (Ψ .dBs m) = Ψ .dBs (l ++ m) := by simp [w_scat, p_dBs]
theorem idx_dBs {l : List BL} {k : Int} {sz : Nat} {R : D → Prop} (kn : Nat) (r : BL) (hk : k = Ω .ci kn) (hv : l[kn]? = some r) (hsz : 18 = sz) (h : R (.agg (dB Ψ r))) :
  Ω .ile 0 k ∧ ∃ x, Ω .sget (Ψ .dBs l) (Ω .tn k) = some x ∧ x.cells.length = sz ∧ R x := by
 subst hk
 refine ⟨ci_nonneg _, .agg (dB Ψ r), ?_, hsz, h⟩
 rw [tn_ci, sget_dBs, hv]; rfl
def pbox (v : VL) : BL := ⟨v, v⟩
structure S3 where
 from' : Rat
 to' : Rat
 op : Bool
structure SL where
 from' : RL
 to' : RL
 op : Bool
def cS (Ψ : (t : Sd) → STy t) (s : S3) : SL := ⟨Ψ .cr s.from', Ψ .cr s.to', s.op⟩
def dS (Ψ : (t : Sd) → STy t) (s : SL) : List D := [.b s.from'.neg, dN Ψ s.from'.num, dN Ψ s.from'.den, .b s.to'.neg, dN Ψ s.to'.num, dN Ψ s.to'.den, .b s.op]
theorem SL.ext_iff' {a b : SL} : a = b ↔ a.from' = b.from' ∧ a.to' = b.to' ∧ a.op = b.op := by
 cases a; cases b; simp
instance : DecidableEq SL := fun _ _ => decidable_of_iff _ SL.ext_iff'.symm
theorem S3.ext_iff' {a b : S3} : a = b ↔ a.from' = b.from' ∧ a.to' = b.to' ∧ a.op = b.op := by
 cases a; cases b; simp
instance : DecidableEq S3 := fun _ _ => decidable_of_iff _ S3.ext_iff'.symm
def btw (x lo hi : Rat) : Prop := lo ≤ x ∧ x ≤ hi
instance (x lo hi : Rat) : Decidable (btw x lo hi) := by unfold btw; infer_instance
def holds (b : B3) (p : V3) : Prop := btw p.x b.lo.x b.hi.x ∧ btw p.y b.lo.y b.hi.y ∧ btw p.z b.lo.z b.hi.z
instance (b : B3) (p : V3) : Decidable (holds b p) := by unfold holds; infer_instance
end Go.K
namespace Go.K
open Go
def nearR (o d lo hi : Rat) : Rat := if d < 0 then (hi - o) / d else (lo - o) / d
def farR (o d lo hi : Rat) : Rat := if d < 0 then (lo - o) / d else (hi - o) / d
def clip1 (o d lo hi : Rat) (s : S3) : Option S3 :=
 if d = 0 then if o < lo ∨ hi < o then none else some s
 else some ⟨rmax s.from' (nearR o d lo hi), rmin (if s.op then farR o d lo hi else s.to') (farR o d lo hi), false⟩
def axV (v : V3) : Nat → Rat
 | 0 => v.x
 | 1 => v.y
 | _ => v.z
def clipN (o d : V3) (b : B3) : Nat → Option S3
 | 0 => some ⟨0, 0, true⟩
 | i + 1 => (clipN o d b i).bind (clip1 (axV o i) (axV d i) (axV b.lo i) (axV b.hi i))
def clipP (o d : V3) (b : B3) : Option S3 := (clipN o d b 3).bind fun s => if s.op = false ∧ s.to' < s.from' then none else some s
def clipS (o d : V3) (b : B3) : S3 := (clipP o d b).getD ⟨0, 0, false⟩
def clipOk (o d : V3) (b : B3) : Bool := (clipP o d b).isSome
structure Sn (k : Nat) (s : S3) : Prop where
 f : Qn k s.from'
 t : Qn k s.to'
theorem clip_none {o d : V3} {b : B3} {i : Nat} {s : S3} (h : clipN o d b i = some s) (hi : i < 3) (hn : clip1 (axV o i) (axV d i) (axV b.lo i) (axV b.hi i) s = none) : clipS o d b = ⟨0, 0, false⟩ ∧ clipOk o d b = false := by
 have h1 : clipN o d b (i + 1) = none := by rw [clipN, h]; exact hn
 have h3 : ∀ j, clipN o d b j = none → clipN o d b (j + 1) = none := fun j hj => by rw [clipN, hj]; rfl
 have h4 : clipN o d b 3 = none := by
  have : i = 0 ∨ i = 1 ∨ i = 2 := by omega
  rcases this with rfl | rfl | rfl
  ·exact h3 _ (h3 _ h1)
  ·exact h3 _ h1
  ·exact h1
 simp [clipS, clipOk, clipP, h4]
theorem clip_last {o d : V3} {b : B3} {s : S3} (h : clipN o d b 3 = some s) :
  (s.op = false → s.to' < s.from' → clipS o d b = ⟨0, 0, false⟩ ∧ clipOk o d b = false) ∧ (¬ (s.op = false ∧ s.to' < s.from') → clipS o d b = s ∧ clipOk o d b = true) := by
 constructor
 ·intro h1 h2
  simp [clipS, clipOk, clipP, h, h1, h2]
 ·intro h1
  simp only [clipS, clipOk, clipP, h, Option.bind_some, if_neg h1]
  exact ⟨rfl, rfl⟩
end Go.K
end
section
namespace Go.K.S
open Go Go.K
theorem least_good (a b : RL) {k : Nat} (ha : Rn k a) (hb : Rn k b) (hk2 : k < 68719476736) :
  Good P F.boxes_least [.d (.agg (dR Ψ a)), .d (.agg (dR Ψ b))] [] (.d (.agg (dR Ψ (Ψ .cr (rmin (rv a) (rv b)))))) [] := by
 refine G.boxes_least fun C C2 hC hC2 => ?_
 have g := rcmp_good a b ha hb hk2 hk2
 have g1 := read_good a ha (by omega)
 have g2 := read_good b hb (by omega)
 have z := @cI_nonpos (rv a) (rv b)
 obtain ⟨R, hR⟩ : ∃ R, R = Ψ .cr (rmin (rv a) (rv b)) := ⟨_, rfl⟩
 rw [← hR]
 by_cases c : rv a ≤ rv b
 ·have e : R = Ψ .cr (rv a) := by rw [hR, rmin, if_pos c]
  have := z.2 c
  rw [← e] at g1
  clear e hR z
  generalize Ψ .cI (rv a) (rv b) = i at *
  refine nx ?_
  refine ⟨_, hC _ _ _ g, ?_⟩
  refine nx ?_
  first | rw [le_true.2 this] | rw [lt_true.2 this] | rw [eq_true'.2 this] | rw [ne_true'.2 this]
  refine nx ?_
  refine ⟨_, hC _ _ _ g1, ?_⟩
  exact nx trivial
 ·have e : R = Ψ .cr (rv b) := by rw [hR, rmin, if_neg c]
  have := mt z.1 c
  rw [← e] at g2
  clear e hR z
  generalize Ψ .cI (rv a) (rv b) = i at *
  refine nx ?_
  refine ⟨_, hC _ _ _ g, ?_⟩
  refine nx ?_
  first | rw [le_false.2 (by omega)] | rw [lt_false.2 (by omega)] | rw [eq_false'.2 this] | rw [ne_false'.2 (by omega)]
  refine nx ?_
  refine ⟨_, hC _ _ _ g2, ?_⟩
  exact nx trivial
theorem most_good (a b : RL) {k : Nat} (ha : Rn k a) (hb : Rn k b) (hk2 : k < 68719476736) :
  Good P F.boxes_most [.d (.agg (dR Ψ a)), .d (.agg (dR Ψ b))] [] (.d (.agg (dR Ψ (Ψ .cr (rmax (rv a) (rv b)))))) [] := by
 refine G.boxes_most fun C C2 hC hC2 => ?_
 have g := rcmp_good a b ha hb hk2 hk2
 have g1 := read_good a ha (by omega)
 have g2 := read_good b hb (by omega)
 have z := @cI_nonneg (rv a) (rv b)
 obtain ⟨R, hR⟩ : ∃ R, R = Ψ .cr (rmax (rv a) (rv b)) := ⟨_, rfl⟩
 rw [← hR]
 by_cases c : rv b ≤ rv a
 ·have e : R = Ψ .cr (rv a) := by rw [hR, rmax, if_pos c]
  have := z.2 c
  rw [← e] at g1
  clear e hR z
  generalize Ψ .cI (rv a) (rv b) = i at *
  refine nx ?_
  refine ⟨_, hC _ _ _ g, ?_⟩
  refine nx ?_
  first | rw [le_true.2 this] | rw [lt_true.2 this] | rw [eq_true'.2 this] | rw [ne_true'.2 this]
  refine nx ?_
  refine ⟨_, hC _ _ _ g1, ?_⟩
  exact nx trivial
 ·have e : R = Ψ .cr (rv b) := by rw [hR, rmax, if_neg c]
  have := mt z.1 c
  rw [← e] at g2
  clear e hR z
  generalize Ψ .cI (rv a) (rv b) = i at *
  refine nx ?_
  refine ⟨_, hC _ _ _ g, ?_⟩
  refine nx ?_
  first | rw [le_false.2 (by omega)] | rw [lt_false.2 (by omega)] | rw [eq_false'.2 this] | rw [ne_false'.2 (by omega)]
  refine nx ?_
  refine ⟨_, hC _ _ _ g2, ?_⟩
  exact nx trivial
theorem axes_good (v : VL) : Good P F.boxes_axes [.d (.agg (dV Ψ v))] [] (.d (.agg (dV Ψ v))) [] := by
 refine G.boxes_axes fun C C2 hC hC2 => ?_
 exact nx trivial
theorem zero_good : Good P F.rat_Of [.d (.i .i64 0), .d (.i .i64 1)] [] (.d (.agg (dR Ψ (Ψ .cr 0)))) [] := by
 have g := rof_good 0 1 (by omega) (by omega) (by omega) (by omega)
 have e : ((0 : Int) : Rat) / ((1 : Int) : Rat) = 0 := by
  have : ((1 : Int) : Rat) = 1 := rfl
  have h2 : ((0 : Int) : Rat) = 0 := rfl
  rw [this, h2]; grind
 rw [e] at g
 exact g
end Go.K.S
end
section
namespace Go.K.S
open Go Go.K
theorem join_good (l : List BL) {k : Nat} (hl : ∀ b, b ∈ l → Bn k b) (hln : l.length < 68719476736) (hk : 0 < k) (hk2 : k < 68719476736) :
  Good P F.boxes_Join [.d (.sl (Ψ .dBs l))] [] (.d (.agg (dB Ψ (Ψ .cB (bjoins l))))) [] := by
 refine G.boxes_Join fun C C2 hC hC2 => ?_
 have hq : ∀ i, Bq k (bjoins (l.take i)) := fun i => Bq_joins hk _ (fun b hb => hl b (List.mem_of_mem_take hb))
 have hst : ∀ i r, l[i]? = some r → 0 < i → bjoins (l.take (i + 1)) = bjoin (bjoins (l.take i)) (bv r) := fun i r hr hi => by
  have hlt := (List.getElem?_eq_some_iff.1 hr).1
  rw [take_succ_of hr, bjoins_snoc _ _ (fun c => by
   have := congrArg List.length c
   rw [List.length_take, List.length_nil] at this
   omega)]
 have hst0 : ∀ r, l[0]? = some r → bjoins (l.take 1) = bv r := fun r hr => by rw [take_succ_of hr]; rfl
 have hlast : bjoins (l.take l.length) = bjoins l := by rw [List.take_length]
 have hz : bjoins (l.take 0) = b0 := rfl
 obtain ⟨R0, hR0⟩ : ∃ R, R = bjoins l := ⟨_, rfl⟩
 rw [← hR0] at hlast ⊢
 obtain ⟨S, hS⟩ : ∃ S : Nat → B3, S = fun i => bjoins (l.take i) := ⟨_, rfl⟩
 have hSe : ∀ i, bjoins (l.take i) = S i := fun i => by rw [hS]
 simp only [hSe] at hq hst hst0 hlast hz
 clear hSe hS
 have e0 : Ψ .cr 0 = (Ψ .cB (S 0)).lo.x := by rw [hz]; rfl
 have g0 := zero_good
 rw [e0] at g0
 refine nx ?_
 refine ⟨_, hC _ _ _ g0, ?_⟩
 refine nx ?_
 refine LoopG.intro (σ := Nat) [2, 4, 17, 18, 19] [1050, 1051]
   (fun i => [.ptr 1050 0, .ptr 1051 0, .d (.sl (Ψ .dBs l)), .d (.i .i64 (Ω .ci l.length)), .d (.i .i64 (Ω .ci i))])
   (fun i => [.var [.d (.b false), .nil, .nil, .d (.b false), .nil, .nil, .d (.b false), .nil, .nil, .d (.b false), .nil, .nil, .d (.b false), .nil, .nil, .d (.b false), .nil, .nil], .var ((dB Ψ (Ψ .cB (S i))).map V.d)])
   (fun i => i ≤ l.length)
   (fun i => l.length - i) 0 [1000, 1209] (Nat.zero_le _) ⟨rfl, rfl, ?_⟩ ?_
 ·have e : Ψ .cB (S 0) = ⟨⟨Ψ .cr 0, Ψ .cr 0, Ψ .cr 0⟩, ⟨Ψ .cr 0, Ψ .cr 0, Ψ .cr 0⟩⟩ := by rw [hz]; rfl
  rw [e]
  rfl
 rintro (_ | i) hi
 ·refine nx ?_
  refine BrG.split (fun h => ?_) (fun h => ?_)
  ·have hlen : 0 < l.length := by have := h; simp only [wz] at this; omega
   obtain ⟨r, hr⟩ : ∃ r, l[0]? = some r := ⟨_, List.getElem?_eq_getElem hlen⟩
   have hb := hl r (List.mem_of_getElem? hr)
   have e := hst0 r hr
   have g1 := least_good r.lo.x r.lo.x hb.lo.x hb.lo.x hk2
   have g2 := least_good r.lo.y r.lo.y hb.lo.y hb.lo.y hk2
   have g3 := least_good r.lo.z r.lo.z hb.lo.z hb.lo.z hk2
   have g4 := most_good r.hi.x r.hi.x hb.hi.x hb.hi.x hk2
   have g5 := most_good r.hi.y r.hi.y hb.hi.y hb.hi.y hk2
   have g6 := most_good r.hi.z r.hi.z hb.hi.z hb.hi.z hk2
   rw [rmin_self] at g1 g2 g3
   rw [rmax_self] at g4 g5 g6
   have e1 : Ψ .cr (rv r.lo.x) = (Ψ .cB (S 1)).lo.x := by rw [e]; rfl
   have e2 : Ψ .cr (rv r.lo.y) = (Ψ .cB (S 1)).lo.y := by rw [e]; rfl
   have e3 : Ψ .cr (rv r.lo.z) = (Ψ .cB (S 1)).lo.z := by rw [e]; rfl
   have e4 : Ψ .cr (rv r.hi.x) = (Ψ .cB (S 1)).hi.x := by rw [e]; rfl
   have e5 : Ψ .cr (rv r.hi.y) = (Ψ .cB (S 1)).hi.y := by rw [e]; rfl
   have e6 : Ψ .cr (rv r.hi.z) = (Ψ .cB (S 1)).hi.z := by rw [e]; rfl
   rw [e1] at g1
   rw [e2] at g2
   rw [e3] at g3
   rw [e4] at g4
   rw [e5] at g5
   rw [e6] at g6
   refine nx ?_
   refine ⟨Int.le_refl _, (idx_dBs 0 r rfl hr rfl ?_).2⟩
   refine nx ?_
   refine BrG.yes rfl ?_
   refine nx ?_
   refine ⟨_, hC _ _ _ g1, ?_⟩
   refine nx ?_
   refine ⟨_, hC _ _ _ g2, ?_⟩
   refine nx ?_
   refine ⟨_, hC _ _ _ g3, ?_⟩
   refine nx ?_
   refine ⟨_, hC _ _ _ g4, ?_⟩
   refine nx ?_
   refine ⟨_, hC _ _ _ g5, ?_⟩
   refine nx ?_
   refine ⟨_, hC _ _ _ g6, ?_⟩
   refine nx ?_
   refine ⟨1, [1050, 1051], hlen, by omega, rfl, ?_, rfl⟩
   refine Eq.trans (b := [.ptr 1050 0, .ptr 1051 0, .d (.sl (Ψ .dBs l)), .d (.i .i64 (Ω .ci l.length)), .d (.i .i64 _)]) rfl ?_
   rw [wrap_succ (by omega)]
  ·have hlen : l.length = 0 := by
    have := h; simp only [wz] at this
    omega
   rw [hlen] at hlast
   subst hlast
   exact nx trivial
 ·refine nx ?_
  refine BrG.split (fun h => ?_) (fun h => ?_)
  ·have hlen : i + 1 < l.length := by have := h; simp only [wz] at this; omega
   obtain ⟨r, hr⟩ : ∃ r, l[i + 1]? = some r := ⟨_, List.getElem?_eq_getElem hlen⟩
   have hb := hl r (List.mem_of_getElem? hr)
   have e := hst _ r hr (by omega)
   have q := Bn_cB (hq (i + 1))
   have g1 := least_good (Ψ .cB (S (i + 1))).lo.x r.lo.x q.lo.x hb.lo.x hk2
   have g2 := least_good (Ψ .cB (S (i + 1))).lo.y r.lo.y q.lo.y hb.lo.y hk2
   have g3 := least_good (Ψ .cB (S (i + 1))).lo.z r.lo.z q.lo.z hb.lo.z hk2
   have g4 := most_good (Ψ .cB (S (i + 1))).hi.x r.hi.x q.hi.x hb.hi.x hk2
   have g5 := most_good (Ψ .cB (S (i + 1))).hi.y r.hi.y q.hi.y hb.hi.y hk2
   have g6 := most_good (Ψ .cB (S (i + 1))).hi.z r.hi.z q.hi.z hb.hi.z hk2
   have e1 : Ψ .cr (rmin (rv (Ψ .cB (S (i + 1))).lo.x) (rv r.lo.x)) = (Ψ .cB (S (i + 1 + 1))).lo.x := by rw [e, show rv (Ψ .cB (S (i + 1))).lo.x = (S (i + 1)).lo.x from rv_cr _]; rfl
   have e2 : Ψ .cr (rmin (rv (Ψ .cB (S (i + 1))).lo.y) (rv r.lo.y)) = (Ψ .cB (S (i + 1 + 1))).lo.y := by rw [e, show rv (Ψ .cB (S (i + 1))).lo.y = (S (i + 1)).lo.y from rv_cr _]; rfl
   have e3 : Ψ .cr (rmin (rv (Ψ .cB (S (i + 1))).lo.z) (rv r.lo.z)) = (Ψ .cB (S (i + 1 + 1))).lo.z := by rw [e, show rv (Ψ .cB (S (i + 1))).lo.z = (S (i + 1)).lo.z from rv_cr _]; rfl
   have e4 : Ψ .cr (rmax (rv (Ψ .cB (S (i + 1))).hi.x) (rv r.hi.x)) = (Ψ .cB (S (i + 1 + 1))).hi.x := by rw [e, show rv (Ψ .cB (S (i + 1))).hi.x = (S (i + 1)).hi.x from rv_cr _]; rfl
   have e5 : Ψ .cr (rmax (rv (Ψ .cB (S (i + 1))).hi.y) (rv r.hi.y)) = (Ψ .cB (S (i + 1 + 1))).hi.y := by rw [e, show rv (Ψ .cB (S (i + 1))).hi.y = (S (i + 1)).hi.y from rv_cr _]; rfl
   have e6 : Ψ .cr (rmax (rv (Ψ .cB (S (i + 1))).hi.z) (rv r.hi.z)) = (Ψ .cB (S (i + 1 + 1))).hi.z := by rw [e, show rv (Ψ .cB (S (i + 1))).hi.z = (S (i + 1)).hi.z from rv_cr _]; rfl
   rw [e1] at g1
   rw [e2] at g2
   rw [e3] at g3
   rw [e4] at g4
   rw [e5] at g5
   rw [e6] at g6
   refine nx ?_
   refine idx_dBs (i + 1) r rfl hr rfl ?_
   refine nx ?_
   refine BrG.split (fun h => ?_) (fun h => ?_)
   ·exfalso
    simp [wz] at h
    first | omega | (have := of_decide_eq_true h; omega)
   refine nx ?_
   refine ⟨_, hC _ _ _ g1, ?_⟩
   refine nx ?_
   refine ⟨_, hC _ _ _ g2, ?_⟩
   refine nx ?_
   refine ⟨_, hC _ _ _ g3, ?_⟩
   refine nx ?_
   refine ⟨_, hC _ _ _ g4, ?_⟩
   refine nx ?_
   refine ⟨_, hC _ _ _ g5, ?_⟩
   refine nx ?_
   refine ⟨_, hC _ _ _ g6, ?_⟩
   refine nx ?_
   refine ⟨i + 1 + 1, [1050, 1051], hlen, by omega, rfl, ?_, rfl⟩
   refine Eq.trans (b := [.ptr 1050 0, .ptr 1051 0, .d (.sl (Ψ .dBs l)), .d (.i .i64 (Ω .ci l.length)), .d (.i .i64 _)]) rfl ?_
   rw [wrap_succ (by omega)]
  ·have hlen : i + 1 = l.length := by have := h; simp only [wz] at this; omega
   rw [← hlen] at hlast
   subst hlast
   exact nx trivial
theorem cells18 (b : BL) : ∀ u, u ∈ [D.agg (dB Ψ b)] → u.cells.length = 18 := fun u h => by
 rw [List.mem_singleton.1 h]; rfl
theorem around_good (l : List VL) {k : Nat} (hl : ∀ b, b ∈ l → Vn k b) (hln : l.length < 68719476736) (hk : 0 < k) (hk2 : k < 68719476736) :
  Good P F.boxes_Around [.d (.sl (Ψ .dVs l))] [] (.d (.agg (dB Ψ (Ψ .cB (bjoins (l.map pbox)))))) [] := by
 refine G.boxes_Around fun C C2 hC hC2 => ?_
 have gj := join_good (l.map pbox) (k := k) (fun b hb => by
  obtain ⟨v, hv, rfl⟩ := List.mem_map.1 hb
  exact ⟨hl v hv, hl v hv⟩) (by simp only [List.length_map]; exact hln) hk hk2
 obtain ⟨R, hR⟩ : ∃ R, R = Ψ .cB (bjoins (l.map pbox)) := ⟨_, rfl⟩
 rw [← hR] at gj ⊢
 clear hR
 have hst : ∀ i r, l[i]? = some r → (l.take (i + 1)).map pbox = (l.take i).map pbox ++ [pbox r] := fun i r hr => by rw [take_succ_of hr]; simp
 have hlast : (l.take l.length).map pbox = l.map pbox := by rw [List.take_length]
 have hz : (l.take 0).map pbox = [] := rfl
 have hlen : ∀ i, i ≤ l.length → ((l.take i).map pbox).length = i := fun i hi => by simp; omega
 obtain ⟨S, hS⟩ : ∃ S : Nat → List BL, S = fun i => (l.take i).map pbox := ⟨_, rfl⟩
 have hSe : ∀ i, (l.take i).map pbox = S i := fun i => by rw [hS]
 simp only [hSe] at hst hlast hz hlen
 clear hSe hS
 rw [← hlast] at gj
 refine nx ?_
 refine LoopG.intro2 (σ := Nat) [2, 3, 6, 7, 8] (fun i => match i with | 0 => [1050] | _ + 1 => [1050, 1051])
   (fun i => [.ptr 1050 0, match i with | 0 => .nil | _ + 1 => .own 1051 18, .d (.sl (Ψ .dVs l)), .d (.i .i64 (Ω .ci l.length)), .d (.i .i64 (Ω .ci i))])
   (fun i => .var [.d (.b false), .nil, .nil, .d (.b false), .nil, .nil, .d (.b false), .nil, .nil, .d (.b false), .nil, .nil, .d (.b false), .nil, .nil, .d (.b false), .nil, .nil] :: match i with | 0 => [] | i + 1 => [.row true T.api_Box 18 (Ψ .dBs (S (i + 1)))])
   (fun i => i ≤ l.length)
   (fun i => l.length - i) 0 [1000] (Nat.zero_le _) ⟨rfl, rfl, rfl⟩ ?_
 rintro (_ | i) hi
 ·refine nx ?_
  refine BrG.split (fun h => ?_) (fun h => ?_)
  ·have hlt : 0 < l.length := by have := h; simp only [wz] at this; omega
   obtain ⟨r, hr⟩ : ∃ r, l[0]? = some r := ⟨_, List.getElem?_eq_getElem hlt⟩
   have e := hst 0 r hr
   rw [hz] at e
   refine nx ?_
   refine ⟨Int.le_refl _, (idx_dVs 0 r rfl hr rfl ?_).2⟩
   refine nx ?_
   refine ⟨cells18 (pbox r), (by simp only [wz]; omega), 1, [1050, 1505], hlt, by omega, rfl, ?_, ?_⟩
   ·refine Eq.trans (b := [.ptr 1050 0, .own 1051 18, .d (.sl (Ψ .dVs l)), .d (.i .i64 (Ω .ci l.length)), .d (.i .i64 _)]) rfl ?_
    rw [wrap_succ (by omega)]
   ·simp only
    rw [e]
    rfl
  ·have hl0 : l.length = 0 := by
    have := h; simp only [wz] at this
    omega
   rw [hl0, hz] at gj
   refine nx ?_
   refine ⟨_, hC _ _ _ gj, ?_⟩
   exact nx trivial
 ·have hsl := hlen (i + 1) hi
  refine nx ?_
  refine BrG.split (fun h => ?_) (fun h => ?_)
  ·have hlt : i + 1 < l.length := by have := h; simp only [wz] at this; omega
   obtain ⟨r, hr⟩ : ∃ r, l[i + 1]? = some r := ⟨_, List.getElem?_eq_getElem hlt⟩
   have e := hst _ r hr
   refine nx ?_
   refine idx_dVs (i + 1) r rfl hr rfl ?_
   refine nx ?_
   refine ⟨cells18 (pbox r), (by simp only [wz, slen_dBs]; omega), i + 1 + 1, [1050, 1505], hlt, by omega, rfl, ?_, ?_⟩
   ·refine Eq.trans (b := [.ptr 1050 0, .own 1051 18, .d (.sl (Ψ .dVs l)), .d (.i .i64 (Ω .ci l.length)), .d (.i .i64 _)]) rfl ?_
    rw [wrap_succ (by omega)]
   ·simp only
    rw [e, ← scat_dBs]
    rfl
  ·have hl0 : i + 1 = l.length := by have := h; simp only [wz] at this; omega
   rw [← hl0] at gj
   refine nx ?_
   refine ⟨_, hC _ _ _ gj, ?_⟩
   exact nx trivial
end Go.K.S
end
section
namespace Go.K.S
open Go Go.K
theorem clip_good (o d : VL) (b : BL) {k : Nat} (ho : Vn k o) (hd : Vn k d) (hb : Bn k b) (hk : 0 < k) (hk2 : k < 8589934590) :
  Good P F.boxes_Clip [.d (.agg (dV Ψ o)), .d (.agg (dV Ψ d)), .d (.agg (dB Ψ b))] [] (.tup [.d (.agg (dS Ψ (cS Ψ (clipS (vv o) (vv d) (bv b))))), .d (.b (clipOk (vv o) (vv d) (bv b)))]) [] := by
 refine G.boxes_Clip fun C C2 hC hC2 => ?_
 have hnone := @clip_none (vv o) (vv d) (bv b)
 have hlast := @clip_last (vv o) (vv d) (bv b)
 have hstep : ∀ i s, clipN (vv o) (vv d) (bv b) i = some s → clipN (vv o) (vv d) (bv b) (i + 1) = clip1 (axV (vv o) i) (axV (vv d) i) (axV (bv b).lo i) (axV (bv b).hi i) s := fun i s h => by rw [clipN, h]; rfl
 have hzero : clipN (vv o) (vv d) (bv b) 0 = some ⟨0, 0, true⟩ := rfl
 obtain ⟨R, hR⟩ : ∃ R, R = clipS (vv o) (vv d) (bv b) := ⟨_, rfl⟩
 obtain ⟨R2, hR2⟩ : ∃ R, R = clipOk (vv o) (vv d) (bv b) := ⟨_, rfl⟩
 rw [← hR, ← hR2] at hnone hlast ⊢
 clear hR hR2
 generalize clipN (vv o) (vv d) (bv b) = N at *
 have ga1 := axes_good o
 have ga2 := axes_good d
 have ga3 := axes_good b.lo
 have ga4 := axes_good b.hi
 have g0 := zero_good
 obtain ⟨Z, hZ⟩ : ∃ Z, Z = Ψ .cr 0 := ⟨_, rfl⟩
 rw [← hZ] at g0
 have hZ2 : dS Ψ (cS Ψ ⟨0, 0, false⟩) = dS Ψ ⟨Z, Z, false⟩ := by rw [hZ]; rfl
 have hZ3 : dS Ψ (cS Ψ ⟨0, 0, true⟩) = dS Ψ ⟨Z, Z, true⟩ := by rw [hZ]; rfl
 refine nx ?_
 refine ⟨_, hC _ _ _ g0, ?_⟩
 refine nx ?_
 refine ⟨_, hC _ _ _ ga1, ?_⟩
 refine nx ?_
 refine ⟨_, hC _ _ _ ga2, ?_⟩
 refine nx ?_
 refine ⟨_, hC _ _ _ ga3, ?_⟩
 refine nx ?_
 refine ⟨_, hC _ _ _ ga4, ?_⟩
 refine nx ?_
 refine LoopG.intro (σ := Nat × S3) [6, 9, 10, 11, 12, 13, 14, 37] [1050, 1051, 1052, 1053, 1054, 1055, 1056]
   (fun x => [.ptr 1050 0, .ptr 1051 0, .ptr 1052 0, .ptr 1053 0, .ptr 1054 0, .ptr 1055 0, .ptr 1056 0, .d (.i .i64 (il x.1))])
   (fun x => [.var [.d (.b false), .nil, .nil, .d (.b false), .nil, .nil, .d (.b false)], .var ((dS Ψ ⟨Z, Z, false⟩).map V.d), .var ((dS Ψ (cS Ψ x.2)).map V.d), .var ((dV Ψ o).map V.d), .var ((dV Ψ d).map V.d), .var ((dV Ψ b.lo).map V.d), .var ((dV Ψ b.hi).map V.d)])
   (fun x => x.1 ≤ 3 ∧ N x.1 = some x.2 ∧ Sn (3 * k + 1) x.2)
   (fun x => 3 - x.1) (0, ⟨0, 0, true⟩) [1003, 1203, 1303, 1410, 1411, 1412, 1413] ⟨by simp only; omega, hzero, ⟨Qn_zero (by omega), Qn_zero (by omega)⟩⟩ ⟨rfl, rfl, ?_⟩ ?_
 ·simp only [hZ3]
  rfl
 rintro ⟨_ | _ | _ | _ | i, s⟩ ⟨hi, hN, hs⟩
 ·have hst := hstep _ _ hN
  have hno := @hnone _ _ hN (by omega)
  have a1 : axV (vv o) 0 = rv o.x := rfl
  have a2 : axV (vv d) 0 = rv d.x := rfl
  have a3 : axV (bv b).lo 0 = rv b.lo.x := rfl
  have a4 : axV (bv b).hi 0 = rv b.hi.x := rfl
  simp only [Nat.zero_add, a1, a2, a3, a4] at hst hno hs
  have s1 := rsub_good b.lo.x o.x hb.lo.x ho.x hk hk (by omega) (by omega)
  have s2 := rsub_good b.hi.x o.x hb.hi.x ho.x hk hk (by omega) (by omega)
  have q1 := Qn_sub (Qn_rv hb.lo.x hk) (Qn_rv ho.x hk)
  have q2 := Qn_sub (Qn_rv hb.hi.x hk) (Qn_rv ho.x hk)
  have d1 := rdiv_good _ d.x (Rn_cr.2 q1) hd.x (by omega) hk (by omega) (by omega)
  have d2 := rdiv_good _ d.x (Rn_cr.2 q2) hd.x (by omega) hk (by omega) (by omega)
  rw [rv_cr] at d1 d2
  have t1 := (Qn_div q1 (Qn_rv hd.x hk) hk).mono (show _ ≤ 3 * k + 1 by omega)
  have t2 := (Qn_div q2 (Qn_rv hd.x hk) hk).mono (show _ ≤ 3 * k + 1 by omega)
  have sg1 := sign_good d.x hd.x (by omega)
  have c1 := rcmp_good o.x b.lo.x ho.x hb.lo.x (by omega) (by omega)
  have c2 := rcmp_good o.x b.hi.x ho.x hb.hi.x (by omega) (by omega)
  have z1 := @cI_neg (rv o.x) (rv b.lo.x)
  have z2 := @cI_pos (rv o.x) (rv b.hi.x)
  by_cases hd0 : rv d.x = 0
  ·rw [decide_eq_false (fun c => c hd0)] at d1 d2
   by_cases c : rv o.x < rv b.lo.x
   ·obtain ⟨e1, e2⟩ := hno (by rw [clip1, if_pos hd0, if_pos (.inl c)])
    subst e1
    subst e2
    rw [hZ2]
    have z1' := z1.2 c
    clear hst hno z1 z2
    generalize Ψ .cI (rv o.x) (rv b.lo.x) = i1 at *
    generalize Ψ .cr (rv b.lo.x - rv o.x) = A1 at *
    generalize Ψ .cr (rv b.hi.x - rv o.x) = A2 at *
    generalize Ψ .cr ((rv b.lo.x - rv o.x) / rv d.x) = A3 at *
    generalize Ψ .cr ((rv b.hi.x - rv o.x) / rv d.x) = A4 at *
    refine nx ?_
    refine BrG.yes rfl ?_
    refine nx ?_
    refine ⟨_, hC _ _ _ s1, ?_⟩
    refine nx ?_
    refine ⟨_, hC _ _ _ d1, ?_⟩
    refine nx ?_
    refine ⟨_, hC _ _ _ s2, ?_⟩
    refine nx ?_
    refine ⟨_, hC _ _ _ d2, ?_⟩
    refine nx ?_
    refine ⟨_, hC _ _ _ c1, ?_⟩
    refine nx ?_
    first | rw [le_true.2 z1'] | rw [lt_true.2 z1'] | rw [eq_true'.2 z1'] | rw [ne_true'.2 z1']
    exact nx trivial
   have z1' := mt z1.1 c
   by_cases c' : rv b.hi.x < rv o.x
   ·obtain ⟨e1, e2⟩ := hno (by rw [clip1, if_pos hd0, if_pos (.inr c')])
    subst e1
    subst e2
    rw [hZ2]
    have z2' := z2.2 c'
    clear hst hno z1 z2
    generalize Ψ .cI (rv o.x) (rv b.lo.x) = i1 at *
    generalize Ψ .cI (rv o.x) (rv b.hi.x) = i2 at *
    generalize Ψ .cr (rv b.lo.x - rv o.x) = A1 at *
    generalize Ψ .cr (rv b.hi.x - rv o.x) = A2 at *
    generalize Ψ .cr ((rv b.lo.x - rv o.x) / rv d.x) = A3 at *
    generalize Ψ .cr ((rv b.hi.x - rv o.x) / rv d.x) = A4 at *
    refine nx ?_
    refine BrG.yes rfl ?_
    refine nx ?_
    refine ⟨_, hC _ _ _ s1, ?_⟩
    refine nx ?_
    refine ⟨_, hC _ _ _ d1, ?_⟩
    refine nx ?_
    refine ⟨_, hC _ _ _ s2, ?_⟩
    refine nx ?_
    refine ⟨_, hC _ _ _ d2, ?_⟩
    refine nx ?_
    refine ⟨_, hC _ _ _ c1, ?_⟩
    refine nx ?_
    first | rw [le_false.2 (by omega)] | rw [lt_false.2 (by omega)] | rw [eq_false'.2 z1'] | rw [ne_false'.2 (by omega)]
    refine nx ?_
    refine ⟨_, hC _ _ _ c2, ?_⟩
    refine nx ?_
    first | rw [le_true.2 z2'] | rw [lt_true.2 z2'] | rw [eq_true'.2 z2'] | rw [ne_true'.2 z2']
    exact nx trivial
   have z2' := mt z2.1 c'
   rw [clip1, if_pos hd0, if_neg (fun q => q.elim c c')] at hst
   clear hno z1 z2
   generalize Ψ .cI (rv o.x) (rv b.lo.x) = i1 at *
   generalize Ψ .cI (rv o.x) (rv b.hi.x) = i2 at *
   generalize Ψ .cr (rv b.lo.x - rv o.x) = A1 at *
   generalize Ψ .cr (rv b.hi.x - rv o.x) = A2 at *
   generalize Ψ .cr ((rv b.lo.x - rv o.x) / rv d.x) = A3 at *
   generalize Ψ .cr ((rv b.hi.x - rv o.x) / rv d.x) = A4 at *
   refine nx ?_
   refine BrG.yes rfl ?_
   refine nx ?_
   refine ⟨_, hC _ _ _ s1, ?_⟩
   refine nx ?_
   refine ⟨_, hC _ _ _ d1, ?_⟩
   refine nx ?_
   refine ⟨_, hC _ _ _ s2, ?_⟩
   refine nx ?_
   refine ⟨_, hC _ _ _ d2, ?_⟩
   refine nx ?_
   refine ⟨_, hC _ _ _ c1, ?_⟩
   refine nx ?_
   first | rw [le_false.2 (by omega)] | rw [lt_false.2 (by omega)] | rw [eq_false'.2 z1'] | rw [ne_false'.2 (by omega)]
   refine nx ?_
   refine ⟨_, hC _ _ _ c2, ?_⟩
   refine nx ?_
   first | rw [le_false.2 (by omega)] | rw [lt_false.2 (by omega)] | rw [eq_false'.2 z2'] | rw [ne_false'.2 (by omega)]
   refine nx ?_
   exact ⟨(1, s), [1050, 1051, 1052, 1053, 1054, 1055, 1056], ⟨by simp only; omega, hst, hs⟩, by simp only; omega, rfl, rfl, rfl⟩
  rw [decide_eq_true hd0] at d1 d2
  rw [clip1, if_neg hd0] at hst
  have qn : Qn (3 * k + 1) (nearR (rv o.x) (rv d.x) (rv b.lo.x) (rv b.hi.x)) := by unfold nearR; split <;> assumption
  have qf : Qn (3 * k + 1) (farR (rv o.x) (rv d.x) (rv b.lo.x) (rv b.hi.x)) := by unfold farR; split <;> assumption
  have m1 := most_good _ _ (Rn_cr.2 hs.f) (Rn_cr.2 qn) (by omega)
  have l1 := least_good _ _ (Rn_cr.2 qf) (Rn_cr.2 qf) (by omega)
  have l2 := least_good _ _ (Rn_cr.2 hs.t) (Rn_cr.2 qf) (by omega)
  simp only [rv_cr] at m1 l1 l2
  have qa := Qn_max hs.f qn
  have qb := Qn_min qf qf
  have qc := Qn_min hs.t qf
  have z := @sI_neg (rv d.x)
  by_cases c : rv d.x < 0
  ·have z' := z.2 c
   have en : nearR (rv o.x) (rv d.x) (rv b.lo.x) (rv b.hi.x) = (rv b.hi.x - rv o.x) / rv d.x := if_pos c
   have ef : farR (rv o.x) (rv d.x) (rv b.lo.x) (rv b.hi.x) = (rv b.lo.x - rv o.x) / rv d.x := if_pos c
   rw [← ef] at d1
   rw [← en] at d2
   clear hno z z1 z2 qn qf t1 t2 q1 q2 en ef
   generalize nearR (rv o.x) (rv d.x) (rv b.lo.x) (rv b.hi.x) = nn at *
   generalize farR (rv o.x) (rv d.x) (rv b.lo.x) (rv b.hi.x) = ff at *
   generalize Ψ .cr (rv b.lo.x - rv o.x) = A1 at *
   generalize Ψ .cr (rv b.hi.x - rv o.x) = A2 at *
   generalize Ψ .sI (rv d.x) = i1 at *
   obtain ⟨f, t, op⟩ := s
   simp only at *
   cases op
   all_goals
    refine nx ?_
    refine BrG.yes rfl ?_
    refine nx ?_
    refine ⟨_, hC _ _ _ s1, ?_⟩
    refine nx ?_
    refine ⟨_, hC _ _ _ d1, ?_⟩
    refine nx ?_
    refine ⟨_, hC _ _ _ s2, ?_⟩
    refine nx ?_
    refine ⟨_, hC _ _ _ d2, ?_⟩
    refine nx ?_
    refine ⟨_, hC _ _ _ sg1, ?_⟩
    refine nx ?_
    first | rw [le_true.2 z'] | rw [lt_true.2 z'] | rw [eq_true'.2 z'] | rw [ne_true'.2 z']
    refine nx ?_
    refine ⟨_, hC _ _ _ m1, ?_⟩
    refine nx ?_
   ·refine ⟨_, hC _ _ _ l2, ?_⟩
    refine nx ?_
    exact ⟨(1, ⟨_, _, _⟩), [1050, 1051, 1052, 1053, 1054, 1055, 1056], ⟨by simp only; omega, hst, qa, qc⟩, by simp only; omega, rfl, rfl, rfl⟩
   ·refine ⟨_, hC _ _ _ l1, ?_⟩
    refine nx ?_
    exact ⟨(1, ⟨_, _, _⟩), [1050, 1051, 1052, 1053, 1054, 1055, 1056], ⟨by simp only; omega, hst, qa, qb⟩, by simp only; omega, rfl, rfl, rfl⟩
  ·have z' := mt z.1 c
   have en : nearR (rv o.x) (rv d.x) (rv b.lo.x) (rv b.hi.x) = (rv b.lo.x - rv o.x) / rv d.x := if_neg c
   have ef : farR (rv o.x) (rv d.x) (rv b.lo.x) (rv b.hi.x) = (rv b.hi.x - rv o.x) / rv d.x := if_neg c
   rw [← en] at d1
   rw [← ef] at d2
   clear hno z z1 z2 qn qf t1 t2 q1 q2 en ef
   generalize nearR (rv o.x) (rv d.x) (rv b.lo.x) (rv b.hi.x) = nn at *
   generalize farR (rv o.x) (rv d.x) (rv b.lo.x) (rv b.hi.x) = ff at *
   generalize Ψ .cr (rv b.lo.x - rv o.x) = A1 at *
   generalize Ψ .cr (rv b.hi.x - rv o.x) = A2 at *
   generalize Ψ .sI (rv d.x) = i1 at *
   obtain ⟨f, t, op⟩ := s
   simp only at *
   cases op
   all_goals
    refine nx ?_
    refine BrG.yes rfl ?_
    refine nx ?_
    refine ⟨_, hC _ _ _ s1, ?_⟩
    refine nx ?_
    refine ⟨_, hC _ _ _ d1, ?_⟩
    refine nx ?_
    refine ⟨_, hC _ _ _ s2, ?_⟩
    refine nx ?_
    refine ⟨_, hC _ _ _ d2, ?_⟩
    refine nx ?_
    refine ⟨_, hC _ _ _ sg1, ?_⟩
    refine nx ?_
    first | rw [le_false.2 (by omega)] | rw [lt_false.2 (by omega)] | rw [eq_false'.2 z'] | rw [ne_false'.2 (by omega)]
    refine nx ?_
    refine ⟨_, hC _ _ _ m1, ?_⟩
    refine nx ?_
   ·refine ⟨_, hC _ _ _ l2, ?_⟩
    refine nx ?_
    exact ⟨(1, ⟨_, _, _⟩), [1050, 1051, 1052, 1053, 1054, 1055, 1056], ⟨by simp only; omega, hst, qa, qc⟩, by simp only; omega, rfl, rfl, rfl⟩
   ·refine ⟨_, hC _ _ _ l1, ?_⟩
    refine nx ?_
    exact ⟨(1, ⟨_, _, _⟩), [1050, 1051, 1052, 1053, 1054, 1055, 1056], ⟨by simp only; omega, hst, qa, qb⟩, by simp only; omega, rfl, rfl, rfl⟩
 ·have hst := hstep _ _ hN
  have hno := @hnone _ _ hN (by omega)
  have a1 : axV (vv o) 1 = rv o.y := rfl
  have a2 : axV (vv d) 1 = rv d.y := rfl
  have a3 : axV (bv b).lo 1 = rv b.lo.y := rfl
  have a4 : axV (bv b).hi 1 = rv b.hi.y := rfl
  simp only [Nat.zero_add, a1, a2, a3, a4] at hst hno hs
  have s1 := rsub_good b.lo.y o.y hb.lo.y ho.y hk hk (by omega) (by omega)
  have s2 := rsub_good b.hi.y o.y hb.hi.y ho.y hk hk (by omega) (by omega)
  have q1 := Qn_sub (Qn_rv hb.lo.y hk) (Qn_rv ho.y hk)
  have q2 := Qn_sub (Qn_rv hb.hi.y hk) (Qn_rv ho.y hk)
  have d1 := rdiv_good _ d.y (Rn_cr.2 q1) hd.y (by omega) hk (by omega) (by omega)
  have d2 := rdiv_good _ d.y (Rn_cr.2 q2) hd.y (by omega) hk (by omega) (by omega)
  rw [rv_cr] at d1 d2
  have t1 := (Qn_div q1 (Qn_rv hd.y hk) hk).mono (show _ ≤ 3 * k + 1 by omega)
  have t2 := (Qn_div q2 (Qn_rv hd.y hk) hk).mono (show _ ≤ 3 * k + 1 by omega)
  have sg1 := sign_good d.y hd.y (by omega)
  have c1 := rcmp_good o.y b.lo.y ho.y hb.lo.y (by omega) (by omega)
  have c2 := rcmp_good o.y b.hi.y ho.y hb.hi.y (by omega) (by omega)
  have z1 := @cI_neg (rv o.y) (rv b.lo.y)
  have z2 := @cI_pos (rv o.y) (rv b.hi.y)
  by_cases hd0 : rv d.y = 0
  ·rw [decide_eq_false (fun c => c hd0)] at d1 d2
   by_cases c : rv o.y < rv b.lo.y
   ·obtain ⟨e1, e2⟩ := hno (by rw [clip1, if_pos hd0, if_pos (.inl c)])
    subst e1
    subst e2
    rw [hZ2]
    have z1' := z1.2 c
    clear hst hno z1 z2
    generalize Ψ .cI (rv o.y) (rv b.lo.y) = i1 at *
    generalize Ψ .cr (rv b.lo.y - rv o.y) = A1 at *
    generalize Ψ .cr (rv b.hi.y - rv o.y) = A2 at *
    generalize Ψ .cr ((rv b.lo.y - rv o.y) / rv d.y) = A3 at *
    generalize Ψ .cr ((rv b.hi.y - rv o.y) / rv d.y) = A4 at *
    refine nx ?_
    refine BrG.yes rfl ?_
    refine nx ?_
    refine ⟨_, hC _ _ _ s1, ?_⟩
    refine nx ?_
    refine ⟨_, hC _ _ _ d1, ?_⟩
    refine nx ?_
    refine ⟨_, hC _ _ _ s2, ?_⟩
    refine nx ?_
    refine ⟨_, hC _ _ _ d2, ?_⟩
    refine nx ?_
    refine ⟨_, hC _ _ _ c1, ?_⟩
    refine nx ?_
    first | rw [le_true.2 z1'] | rw [lt_true.2 z1'] | rw [eq_true'.2 z1'] | rw [ne_true'.2 z1']
    exact nx trivial
   have z1' := mt z1.1 c
   by_cases c' : rv b.hi.y < rv o.y
   ·obtain ⟨e1, e2⟩ := hno (by rw [clip1, if_pos hd0, if_pos (.inr c')])
    subst e1
    subst e2
    rw [hZ2]
    have z2' := z2.2 c'
    clear hst hno z1 z2
    generalize Ψ .cI (rv o.y) (rv b.lo.y) = i1 at *
    generalize Ψ .cI (rv o.y) (rv b.hi.y) = i2 at *
    generalize Ψ .cr (rv b.lo.y - rv o.y) = A1 at *
    generalize Ψ .cr (rv b.hi.y - rv o.y) = A2 at *
    generalize Ψ .cr ((rv b.lo.y - rv o.y) / rv d.y) = A3 at *
    generalize Ψ .cr ((rv b.hi.y - rv o.y) / rv d.y) = A4 at *
    refine nx ?_
    refine BrG.yes rfl ?_
    refine nx ?_
    refine ⟨_, hC _ _ _ s1, ?_⟩
    refine nx ?_
    refine ⟨_, hC _ _ _ d1, ?_⟩
    refine nx ?_
    refine ⟨_, hC _ _ _ s2, ?_⟩
    refine nx ?_
    refine ⟨_, hC _ _ _ d2, ?_⟩
    refine nx ?_
    refine ⟨_, hC _ _ _ c1, ?_⟩
    refine nx ?_
    first | rw [le_false.2 (by omega)] | rw [lt_false.2 (by omega)] | rw [eq_false'.2 z1'] | rw [ne_false'.2 (by omega)]
    refine nx ?_
    refine ⟨_, hC _ _ _ c2, ?_⟩
    refine nx ?_
    first | rw [le_true.2 z2'] | rw [lt_true.2 z2'] | rw [eq_true'.2 z2'] | rw [ne_true'.2 z2']
    exact nx trivial
   have z2' := mt z2.1 c'
   rw [clip1, if_pos hd0, if_neg (fun q => q.elim c c')] at hst
   clear hno z1 z2
   generalize Ψ .cI (rv o.y) (rv b.lo.y) = i1 at *
   generalize Ψ .cI (rv o.y) (rv b.hi.y) = i2 at *
   generalize Ψ .cr (rv b.lo.y - rv o.y) = A1 at *
   generalize Ψ .cr (rv b.hi.y - rv o.y) = A2 at *
   generalize Ψ .cr ((rv b.lo.y - rv o.y) / rv d.y) = A3 at *
   generalize Ψ .cr ((rv b.hi.y - rv o.y) / rv d.y) = A4 at *
   refine nx ?_
   refine BrG.yes rfl ?_
   refine nx ?_
   refine ⟨_, hC _ _ _ s1, ?_⟩
   refine nx ?_
   refine ⟨_, hC _ _ _ d1, ?_⟩
   refine nx ?_
   refine ⟨_, hC _ _ _ s2, ?_⟩
   refine nx ?_
   refine ⟨_, hC _ _ _ d2, ?_⟩
   refine nx ?_
   refine ⟨_, hC _ _ _ c1, ?_⟩
   refine nx ?_
   first | rw [le_false.2 (by omega)] | rw [lt_false.2 (by omega)] | rw [eq_false'.2 z1'] | rw [ne_false'.2 (by omega)]
   refine nx ?_
   refine ⟨_, hC _ _ _ c2, ?_⟩
   refine nx ?_
   first | rw [le_false.2 (by omega)] | rw [lt_false.2 (by omega)] | rw [eq_false'.2 z2'] | rw [ne_false'.2 (by omega)]
   refine nx ?_
   exact ⟨(2, s), [1050, 1051, 1052, 1053, 1054, 1055, 1056], ⟨by simp only; omega, hst, hs⟩, by simp only; omega, rfl, rfl, rfl⟩
  rw [decide_eq_true hd0] at d1 d2
  rw [clip1, if_neg hd0] at hst
  have qn : Qn (3 * k + 1) (nearR (rv o.y) (rv d.y) (rv b.lo.y) (rv b.hi.y)) := by unfold nearR; split <;> assumption
  have qf : Qn (3 * k + 1) (farR (rv o.y) (rv d.y) (rv b.lo.y) (rv b.hi.y)) := by unfold farR; split <;> assumption
  have m1 := most_good _ _ (Rn_cr.2 hs.f) (Rn_cr.2 qn) (by omega)
  have l1 := least_good _ _ (Rn_cr.2 qf) (Rn_cr.2 qf) (by omega)
  have l2 := least_good _ _ (Rn_cr.2 hs.t) (Rn_cr.2 qf) (by omega)
  simp only [rv_cr] at m1 l1 l2
  have qa := Qn_max hs.f qn
  have qb := Qn_min qf qf
  have qc := Qn_min hs.t qf
  have z := @sI_neg (rv d.y)
  by_cases c : rv d.y < 0
  ·have z' := z.2 c
   have en : nearR (rv o.y) (rv d.y) (rv b.lo.y) (rv b.hi.y) = (rv b.hi.y - rv o.y) / rv d.y := if_pos c
   have ef : farR (rv o.y) (rv d.y) (rv b.lo.y) (rv b.hi.y) = (rv b.lo.y - rv o.y) / rv d.y := if_pos c
   rw [← ef] at d1
   rw [← en] at d2
   clear hno z z1 z2 qn qf t1 t2 q1 q2 en ef
   generalize nearR (rv o.y) (rv d.y) (rv b.lo.y) (rv b.hi.y) = nn at *
   generalize farR (rv o.y) (rv d.y) (rv b.lo.y) (rv b.hi.y) = ff at *
   generalize Ψ .cr (rv b.lo.y - rv o.y) = A1 at *
   generalize Ψ .cr (rv b.hi.y - rv o.y) = A2 at *
   generalize Ψ .sI (rv d.y) = i1 at *
   obtain ⟨f, t, op⟩ := s
   simp only at *
   cases op
   all_goals
    refine nx ?_
    refine BrG.yes rfl ?_
    refine nx ?_
    refine ⟨_, hC _ _ _ s1, ?_⟩
    refine nx ?_
    refine ⟨_, hC _ _ _ d1, ?_⟩
    refine nx ?_
    refine ⟨_, hC _ _ _ s2, ?_⟩
    refine nx ?_
    refine ⟨_, hC _ _ _ d2, ?_⟩
    refine nx ?_
    refine ⟨_, hC _ _ _ sg1, ?_⟩
    refine nx ?_
    first | rw [le_true.2 z'] | rw [lt_true.2 z'] | rw [eq_true'.2 z'] | rw [ne_true'.2 z']
    refine nx ?_
    refine ⟨_, hC _ _ _ m1, ?_⟩
    refine nx ?_
   ·refine ⟨_, hC _ _ _ l2, ?_⟩
    refine nx ?_
    exact ⟨(2, ⟨_, _, _⟩), [1050, 1051, 1052, 1053, 1054, 1055, 1056], ⟨by simp only; omega, hst, qa, qc⟩, by simp only; omega, rfl, rfl, rfl⟩
   ·refine ⟨_, hC _ _ _ l1, ?_⟩
    refine nx ?_
    exact ⟨(2, ⟨_, _, _⟩), [1050, 1051, 1052, 1053, 1054, 1055, 1056], ⟨by simp only; omega, hst, qa, qb⟩, by simp only; omega, rfl, rfl, rfl⟩
  ·have z' := mt z.1 c
   have en : nearR (rv o.y) (rv d.y) (rv b.lo.y) (rv b.hi.y) = (rv b.lo.y - rv o.y) / rv d.y := if_neg c
   have ef : farR (rv o.y) (rv d.y) (rv b.lo.y) (rv b.hi.y) = (rv b.hi.y - rv o.y) / rv d.y := if_neg c
   rw [← en] at d1
   rw [← ef] at d2
   clear hno z z1 z2 qn qf t1 t2 q1 q2 en ef
   generalize nearR (rv o.y) (rv d.y) (rv b.lo.y) (rv b.hi.y) = nn at *
   generalize farR (rv o.y) (rv d.y) (rv b.lo.y) (rv b.hi.y) = ff at *
   generalize Ψ .cr (rv b.lo.y - rv o.y) = A1 at *
   generalize Ψ .cr (rv b.hi.y - rv o.y) = A2 at *
   generalize Ψ .sI (rv d.y) = i1 at *
   obtain ⟨f, t, op⟩ := s
   simp only at *
   cases op
   all_goals
    refine nx ?_
    refine BrG.yes rfl ?_
    refine nx ?_
    refine ⟨_, hC _ _ _ s1, ?_⟩
    refine nx ?_
    refine ⟨_, hC _ _ _ d1, ?_⟩
    refine nx ?_
    refine ⟨_, hC _ _ _ s2, ?_⟩
    refine nx ?_
    refine ⟨_, hC _ _ _ d2, ?_⟩
    refine nx ?_
    refine ⟨_, hC _ _ _ sg1, ?_⟩
    refine nx ?_
    first | rw [le_false.2 (by omega)] | rw [lt_false.2 (by omega)] | rw [eq_false'.2 z'] | rw [ne_false'.2 (by omega)]
    refine nx ?_
    refine ⟨_, hC _ _ _ m1, ?_⟩
    refine nx ?_
   ·refine ⟨_, hC _ _ _ l2, ?_⟩
    refine nx ?_
    exact ⟨(2, ⟨_, _, _⟩), [1050, 1051, 1052, 1053, 1054, 1055, 1056], ⟨by simp only; omega, hst, qa, qc⟩, by simp only; omega, rfl, rfl, rfl⟩
   ·refine ⟨_, hC _ _ _ l1, ?_⟩
    refine nx ?_
    exact ⟨(2, ⟨_, _, _⟩), [1050, 1051, 1052, 1053, 1054, 1055, 1056], ⟨by simp only; omega, hst, qa, qb⟩, by simp only; omega, rfl, rfl, rfl⟩
 ·have hst := hstep _ _ hN
  have hno := @hnone _ _ hN (by omega)
  have a1 : axV (vv o) 2 = rv o.z := rfl
  have a2 : axV (vv d) 2 = rv d.z := rfl
  have a3 : axV (bv b).lo 2 = rv b.lo.z := rfl
  have a4 : axV (bv b).hi 2 = rv b.hi.z := rfl
  simp only [Nat.zero_add, a1, a2, a3, a4] at hst hno hs
  have s1 := rsub_good b.lo.z o.z hb.lo.z ho.z hk hk (by omega) (by omega)
  have s2 := rsub_good b.hi.z o.z hb.hi.z ho.z hk hk (by omega) (by omega)
  have q1 := Qn_sub (Qn_rv hb.lo.z hk) (Qn_rv ho.z hk)
  have q2 := Qn_sub (Qn_rv hb.hi.z hk) (Qn_rv ho.z hk)
  have d1 := rdiv_good _ d.z (Rn_cr.2 q1) hd.z (by omega) hk (by omega) (by omega)
  have d2 := rdiv_good _ d.z (Rn_cr.2 q2) hd.z (by omega) hk (by omega) (by omega)
  rw [rv_cr] at d1 d2
  have t1 := (Qn_div q1 (Qn_rv hd.z hk) hk).mono (show _ ≤ 3 * k + 1 by omega)
  have t2 := (Qn_div q2 (Qn_rv hd.z hk) hk).mono (show _ ≤ 3 * k + 1 by omega)
  have sg1 := sign_good d.z hd.z (by omega)
  have c1 := rcmp_good o.z b.lo.z ho.z hb.lo.z (by omega) (by omega)
  have c2 := rcmp_good o.z b.hi.z ho.z hb.hi.z (by omega) (by omega)
  have z1 := @cI_neg (rv o.z) (rv b.lo.z)
  have z2 := @cI_pos (rv o.z) (rv b.hi.z)
  by_cases hd0 : rv d.z = 0
  ·rw [decide_eq_false (fun c => c hd0)] at d1 d2
   by_cases c : rv o.z < rv b.lo.z
   ·obtain ⟨e1, e2⟩ := hno (by rw [clip1, if_pos hd0, if_pos (.inl c)])
    subst e1
    subst e2
    rw [hZ2]
    have z1' := z1.2 c
    clear hst hno z1 z2
    generalize Ψ .cI (rv o.z) (rv b.lo.z) = i1 at *
    generalize Ψ .cr (rv b.lo.z - rv o.z) = A1 at *
    generalize Ψ .cr (rv b.hi.z - rv o.z) = A2 at *
    generalize Ψ .cr ((rv b.lo.z - rv o.z) / rv d.z) = A3 at *
    generalize Ψ .cr ((rv b.hi.z - rv o.z) / rv d.z) = A4 at *
    refine nx ?_
    refine BrG.yes rfl ?_
    refine nx ?_
    refine ⟨_, hC _ _ _ s1, ?_⟩
    refine nx ?_
    refine ⟨_, hC _ _ _ d1, ?_⟩
    refine nx ?_
    refine ⟨_, hC _ _ _ s2, ?_⟩
    refine nx ?_
    refine ⟨_, hC _ _ _ d2, ?_⟩
    refine nx ?_
    refine ⟨_, hC _ _ _ c1, ?_⟩
    refine nx ?_
    first | rw [le_true.2 z1'] | rw [lt_true.2 z1'] | rw [eq_true'.2 z1'] | rw [ne_true'.2 z1']
    exact nx trivial
   have z1' := mt z1.1 c
   by_cases c' : rv b.hi.z < rv o.z
   ·obtain ⟨e1, e2⟩ := hno (by rw [clip1, if_pos hd0, if_pos (.inr c')])
    subst e1
    subst e2
    rw [hZ2]
    have z2' := z2.2 c'
    clear hst hno z1 z2
    generalize Ψ .cI (rv o.z) (rv b.lo.z) = i1 at *
    generalize Ψ .cI (rv o.z) (rv b.hi.z) = i2 at *
    generalize Ψ .cr (rv b.lo.z - rv o.z) = A1 at *
    generalize Ψ .cr (rv b.hi.z - rv o.z) = A2 at *
    generalize Ψ .cr ((rv b.lo.z - rv o.z) / rv d.z) = A3 at *
    generalize Ψ .cr ((rv b.hi.z - rv o.z) / rv d.z) = A4 at *
    refine nx ?_
    refine BrG.yes rfl ?_
    refine nx ?_
    refine ⟨_, hC _ _ _ s1, ?_⟩
    refine nx ?_
    refine ⟨_, hC _ _ _ d1, ?_⟩
    refine nx ?_
    refine ⟨_, hC _ _ _ s2, ?_⟩
    refine nx ?_
    refine ⟨_, hC _ _ _ d2, ?_⟩
    refine nx ?_
    refine ⟨_, hC _ _ _ c1, ?_⟩
    refine nx ?_
    first | rw [le_false.2 (by omega)] | rw [lt_false.2 (by omega)] | rw [eq_false'.2 z1'] | rw [ne_false'.2 (by omega)]
    refine nx ?_
    refine ⟨_, hC _ _ _ c2, ?_⟩
    refine nx ?_
    first | rw [le_true.2 z2'] | rw [lt_true.2 z2'] | rw [eq_true'.2 z2'] | rw [ne_true'.2 z2']
    exact nx trivial
   have z2' := mt z2.1 c'
   rw [clip1, if_pos hd0, if_neg (fun q => q.elim c c')] at hst
   clear hno z1 z2
   generalize Ψ .cI (rv o.z) (rv b.lo.z) = i1 at *
   generalize Ψ .cI (rv o.z) (rv b.hi.z) = i2 at *
   generalize Ψ .cr (rv b.lo.z - rv o.z) = A1 at *
   generalize Ψ .cr (rv b.hi.z - rv o.z) = A2 at *
   generalize Ψ .cr ((rv b.lo.z - rv o.z) / rv d.z) = A3 at *
   generalize Ψ .cr ((rv b.hi.z - rv o.z) / rv d.z) = A4 at *
   refine nx ?_
   refine BrG.yes rfl ?_
   refine nx ?_
   refine ⟨_, hC _ _ _ s1, ?_⟩
   refine nx ?_
   refine ⟨_, hC _ _ _ d1, ?_⟩
   refine nx ?_
   refine ⟨_, hC _ _ _ s2, ?_⟩
   refine nx ?_
   refine ⟨_, hC _ _ _ d2, ?_⟩
   refine nx ?_
   refine ⟨_, hC _ _ _ c1, ?_⟩
   refine nx ?_
   first | rw [le_false.2 (by omega)] | rw [lt_false.2 (by omega)] | rw [eq_false'.2 z1'] | rw [ne_false'.2 (by omega)]
   refine nx ?_
   refine ⟨_, hC _ _ _ c2, ?_⟩
   refine nx ?_
   first | rw [le_false.2 (by omega)] | rw [lt_false.2 (by omega)] | rw [eq_false'.2 z2'] | rw [ne_false'.2 (by omega)]
   refine nx ?_
   exact ⟨(3, s), [1050, 1051, 1052, 1053, 1054, 1055, 1056], ⟨by simp only; omega, hst, hs⟩, by simp only; omega, rfl, rfl, rfl⟩
  rw [decide_eq_true hd0] at d1 d2
  rw [clip1, if_neg hd0] at hst
  have qn : Qn (3 * k + 1) (nearR (rv o.z) (rv d.z) (rv b.lo.z) (rv b.hi.z)) := by unfold nearR; split <;> assumption
  have qf : Qn (3 * k + 1) (farR (rv o.z) (rv d.z) (rv b.lo.z) (rv b.hi.z)) := by unfold farR; split <;> assumption
  have m1 := most_good _ _ (Rn_cr.2 hs.f) (Rn_cr.2 qn) (by omega)
  have l1 := least_good _ _ (Rn_cr.2 qf) (Rn_cr.2 qf) (by omega)
  have l2 := least_good _ _ (Rn_cr.2 hs.t) (Rn_cr.2 qf) (by omega)
  simp only [rv_cr] at m1 l1 l2
  have qa := Qn_max hs.f qn
  have qb := Qn_min qf qf
  have qc := Qn_min hs.t qf
  have z := @sI_neg (rv d.z)
  by_cases c : rv d.z < 0
  ·have z' := z.2 c
   have en : nearR (rv o.z) (rv d.z) (rv b.lo.z) (rv b.hi.z) = (rv b.hi.z - rv o.z) / rv d.z := if_pos c
   have ef : farR (rv o.z) (rv d.z) (rv b.lo.z) (rv b.hi.z) = (rv b.lo.z - rv o.z) / rv d.z := if_pos c
   rw [← ef] at d1
   rw [← en] at d2
   clear hno z z1 z2 qn qf t1 t2 q1 q2 en ef
   generalize nearR (rv o.z) (rv d.z) (rv b.lo.z) (rv b.hi.z) = nn at *
   generalize farR (rv o.z) (rv d.z) (rv b.lo.z) (rv b.hi.z) = ff at *
   generalize Ψ .cr (rv b.lo.z - rv o.z) = A1 at *
   generalize Ψ .cr (rv b.hi.z - rv o.z) = A2 at *
   generalize Ψ .sI (rv d.z) = i1 at *
   obtain ⟨f, t, op⟩ := s
   simp only at *
   cases op
   all_goals
    refine nx ?_
    refine BrG.yes rfl ?_
    refine nx ?_
    refine ⟨_, hC _ _ _ s1, ?_⟩
    refine nx ?_
    refine ⟨_, hC _ _ _ d1, ?_⟩
    refine nx ?_
    refine ⟨_, hC _ _ _ s2, ?_⟩
    refine nx ?_
    refine ⟨_, hC _ _ _ d2, ?_⟩
    refine nx ?_
    refine ⟨_, hC _ _ _ sg1, ?_⟩
    refine nx ?_
    first | rw [le_true.2 z'] | rw [lt_true.2 z'] | rw [eq_true'.2 z'] | rw [ne_true'.2 z']
    refine nx ?_
    refine ⟨_, hC _ _ _ m1, ?_⟩
    refine nx ?_
   ·refine ⟨_, hC _ _ _ l2, ?_⟩
    refine nx ?_
    exact ⟨(3, ⟨_, _, _⟩), [1050, 1051, 1052, 1053, 1054, 1055, 1056], ⟨by simp only; omega, hst, qa, qc⟩, by simp only; omega, rfl, rfl, rfl⟩
   ·refine ⟨_, hC _ _ _ l1, ?_⟩
    refine nx ?_
    exact ⟨(3, ⟨_, _, _⟩), [1050, 1051, 1052, 1053, 1054, 1055, 1056], ⟨by simp only; omega, hst, qa, qb⟩, by simp only; omega, rfl, rfl, rfl⟩
  ·have z' := mt z.1 c
   have en : nearR (rv o.z) (rv d.z) (rv b.lo.z) (rv b.hi.z) = (rv b.lo.z - rv o.z) / rv d.z := if_neg c
   have ef : farR (rv o.z) (rv d.z) (rv b.lo.z) (rv b.hi.z) = (rv b.hi.z - rv o.z) / rv d.z := if_neg c
   rw [← en] at d1
   rw [← ef] at d2
   clear hno z z1 z2 qn qf t1 t2 q1 q2 en ef
   generalize nearR (rv o.z) (rv d.z) (rv b.lo.z) (rv b.hi.z) = nn at *
   generalize farR (rv o.z) (rv d.z) (rv b.lo.z) (rv b.hi.z) = ff at *
   generalize Ψ .cr (rv b.lo.z - rv o.z) = A1 at *
   generalize Ψ .cr (rv b.hi.z - rv o.z) = A2 at *
   generalize Ψ .sI (rv d.z) = i1 at *
   obtain ⟨f, t, op⟩ := s
   simp only at *
   cases op
   all_goals
    refine nx ?_
    refine BrG.yes rfl ?_
    refine nx ?_
    refine ⟨_, hC _ _ _ s1, ?_⟩
    refine nx ?_
    refine ⟨_, hC _ _ _ d1, ?_⟩
    refine nx ?_
    refine ⟨_, hC _ _ _ s2, ?_⟩
    refine nx ?_
    refine ⟨_, hC _ _ _ d2, ?_⟩
    refine nx ?_
    refine ⟨_, hC _ _ _ sg1, ?_⟩
    refine nx ?_
    first | rw [le_false.2 (by omega)] | rw [lt_false.2 (by omega)] | rw [eq_false'.2 z'] | rw [ne_false'.2 (by omega)]
    refine nx ?_
    refine ⟨_, hC _ _ _ m1, ?_⟩
    refine nx ?_
   ·refine ⟨_, hC _ _ _ l2, ?_⟩
    refine nx ?_
    exact ⟨(3, ⟨_, _, _⟩), [1050, 1051, 1052, 1053, 1054, 1055, 1056], ⟨by simp only; omega, hst, qa, qc⟩, by simp only; omega, rfl, rfl, rfl⟩
   ·refine ⟨_, hC _ _ _ l1, ?_⟩
    refine nx ?_
    exact ⟨(3, ⟨_, _, _⟩), [1050, 1051, 1052, 1053, 1054, 1055, 1056], ⟨by simp only; omega, hst, qa, qb⟩, by simp only; omega, rfl, rfl, rfl⟩
 ·obtain ⟨hl1, hl2⟩ := hlast hN
  have c := rcmp_good _ _ (Rn_cr.2 hs.f) (Rn_cr.2 hs.t) (by omega) (by omega)
  rw [rv_cr, rv_cr] at c
  have z := @cI_pos s.from' s.to'
  obtain ⟨f, t, op⟩ := s
  simp only at *
  cases op
  ·by_cases hlt : t < f
   ·obtain ⟨e1, e2⟩ := hl1 rfl hlt
    subst e1
    subst e2
    rw [hZ2]
    have z' := z.2 hlt
    clear z hl2
    generalize Ψ .cI f t = i1 at *
    refine nx ?_
    refine BrG.no rfl ?_
    refine nx ?_
    refine ⟨_, hC _ _ _ c, ?_⟩
    refine nx ?_
    first | rw [le_true.2 z'] | rw [lt_true.2 z'] | rw [eq_true'.2 z'] | rw [ne_true'.2 z']
    exact nx trivial
   ·obtain ⟨e1, e2⟩ := hl2 (fun q => hlt q.2)
    subst e1
    subst e2
    have z' := mt z.1 hlt
    clear z
    generalize Ψ .cI f t = i1 at *
    refine nx ?_
    refine BrG.no rfl ?_
    refine nx ?_
    refine ⟨_, hC _ _ _ c, ?_⟩
    refine nx ?_
    first | rw [le_false.2 (by omega)] | rw [lt_false.2 (by omega)] | rw [eq_false'.2 z'] | rw [ne_false'.2 (by omega)]
    exact nx trivial
  ·obtain ⟨e1, e2⟩ := hl2 (fun q => Bool.noConfusion q.1)
   subst e1
   subst e2
   refine nx ?_
   refine BrG.no rfl ?_
   exact nx trivial
 ·exfalso
  simp only at hi
  omega
end Go.K.S
end
section
namespace Go.K
end Go.K
namespace Go.K.S
open Go Go.K
end Go.K.S
end
section
namespace Go.K.S
open Go Go.K
end Go.K.S
end
section
namespace Go.K
open Go
theorem Qn_int {n : Int} (h : n.natAbs < 4294967296) : Qn 1 (n : Rat) := ⟨by simpa using h, by simp⟩
end Go.K
namespace Go.K.S
open Go Go.K
def cube3 : B3 := ⟨⟨((0 : Int) : Rat), ((0 : Int) : Rat), ((0 : Int) : Rat)⟩, ⟨((1 : Int) : Rat), ((1 : Int) : Rat), ((1 : Int) : Rat)⟩⟩
def half : Rat := ((1 : Int) : Rat) / ((2 : Int) : Rat)
def o1 : V3 := ⟨((-1 : Int) : Rat) / ((1 : Int) : Rat), half, half⟩
def o2 : V3 := ⟨half, half, half⟩
def v200 : V3 := ⟨((2 : Int) : Rat), ((0 : Int) : Rat), ((0 : Int) : Rat)⟩
def v100 : V3 := ⟨((1 : Int) : Rat), ((0 : Int) : Rat), ((0 : Int) : Rat)⟩
def v000 : V3 := ⟨((0 : Int) : Rat), ((0 : Int) : Rat), ((0 : Int) : Rat)⟩
def v101 : V3 := ⟨((1 : Int) : Rat), ((0 : Int) : Rat), ((1 : Int) : Rat)⟩
theorem c1 : clipS o1 v200 cube3 = ⟨half, 1, false⟩ := by decide +kernel
theorem c2 : clipOk o1 v200 cube3 = true := by decide +kernel
theorem c3 : (clipS o2 v000 cube3).op = true := by decide +kernel
theorem c4 : clipOk o2 v000 cube3 = true := by decide +kernel
theorem c5 : clipOk v200 v100 cube3 = false := by decide +kernel
theorem c6 : holds cube3 v101 := by decide +kernel
end Go.K.S
end
section
namespace Go.K
open Go
def edgesQ (o d lo hi : Rat) : List Rat := if d = 0 then [] else (if 0 ≤ (lo - o) / d then [(lo - o) / d] else []) ++ (if 0 ≤ (hi - o) / d then [(hi - o) / d] else [])
theorem Bn.mono {j k : Nat} {b : BL} (h : Bn j b) (hjk : j ≤ k) : Bn k b := ⟨h.lo.mono hjk, h.hi.mono hjk⟩
end Go.K
namespace Go.K.S
open Go Go.K
def placesQ (o d : V3) (b : B3) : List Rat := 0 :: (edgesQ o.x d.x b.lo.x b.hi.x ++ edgesQ o.y d.y b.lo.y b.hi.y ++ edgesQ o.z d.z b.lo.z b.hi.z)
def vat (o d : V3) (s : Rat) : V3 := vadd o (vmul s d)
def stepR (o d : V3) (b : B3) (acc : Option (Rat × Rat)) (x : Rat) : Option (Rat × Rat) :=
 if holds b (vat o d x) then some (match acc with | none => (x, x) | some (f, t) => (rmin f x, rmax t x)) else acc
def clipR (o d : V3) (b : B3) (l : List Rat) : Option (Rat × Rat) := l.foldl (stepR o d b) none
def spanR (o d : V3) (b : B3) : S3 := match clipR o d b (placesQ o d b) with
 | none => ⟨0, 0, false⟩
 | some (f, t) => ⟨f, t, decide (d = v0)⟩
theorem Qn_edges {o d lo hi : Rat} {k : Nat} (ho : Qn k o) (hd : Qn k d) (hlo : Qn k lo) (hhi : Qn k hi) (hk : 0 < k) : ∀ q, q ∈ edgesQ o d lo hi → Qn (3 * k + 1) q := fun q h => by
 have t1 := (Qn_div (Qn_sub hlo ho) hd hk).mono (show _ ≤ 3 * k + 1 by omega)
 have t2 := (Qn_div (Qn_sub hhi ho) hd hk).mono (show _ ≤ 3 * k + 1 by omega)
 unfold edgesQ at h
 split at h
 ·cases h
 ·rcases List.mem_append.1 h with h | h
  ·split at h
   ·rw [List.mem_singleton.1 h]; exact t1
   ·cases h
  ·split at h
   ·rw [List.mem_singleton.1 h]; exact t2
   ·cases h
end Go.K.S
end
section
namespace Go.K
open Go Go.K.S
theorem rmax_le {a b t : Rat} : rmax a b ≤ t ↔ a ≤ t ∧ b ≤ t := by unfold rmax; split <;> grind
theorem le_rmin {a b t : Rat} : t ≤ rmin a b ↔ t ≤ a ∧ t ≤ b := by unfold rmin; split <;> grind
theorem le_rmax_left (a b : Rat) : a ≤ rmax a b := by unfold rmax; split <;> grind
theorem rmax_or (a b : Rat) : rmax a b = a ∨ rmax a b = b := by unfold rmax; split <;> simp
theorem rmin_or (a b : Rat) : rmin a b = a ∨ rmin a b = b := by unfold rmin; split <;> simp
theorem div_mul_self' {a b : Rat} (h : b ≠ 0) : a / b * b = a := by grind
theorem mul_le_iff {a b c : Rat} (hc : 0 < c) : a * c ≤ b * c ↔ a ≤ b :=
 ⟨fun h => Rat.le_of_mul_le_mul_right h hc, fun h => Rat.mul_le_mul_of_nonneg_right h (by grind)⟩
theorem axis {o d lo hi : Rat} (hd : d ≠ 0) (t : Rat) : btw (o + t * d) lo hi ↔ nearR o d lo hi ≤ t ∧ t ≤ farR o d lo hi := by
 have e1 : (lo - o) / d * d = lo - o := div_mul_self' hd
 have e2 : (hi - o) / d * d = hi - o := div_mul_self' hd
 unfold btw nearR farR
 generalize (lo - o) / d = x at *
 generalize (hi - o) / d = y at *
 rcases (show d < 0 ∨ 0 < d by grind) with h | h
 ·rw [if_pos h, if_pos h]
  have hn : 0 < -d := by grind
  have a1 := mul_le_iff (a := y) (b := t) hn
  have a2 := mul_le_iff (a := t) (b := x) hn
  rw [← a1, ← a2]
  constructor
  ·intro h; constructor <;> grind
  ·intro h; constructor <;> grind
 ·rw [if_neg (by grind), if_neg (by grind)]
  have a1 := mul_le_iff (a := x) (b := t) h
  have a2 := mul_le_iff (a := t) (b := y) h
  rw [← a1, ← a2]
  constructor
  ·intro h; constructor <;> grind
  ·intro h; constructor <;> grind
def edge (o d : V3) (b : B3) (j : Nat) (x : Rat) : Prop := axV d j ≠ 0 ∧ (x = (axV b.lo j - axV o j) / axV d j ∨ x = (axV b.hi j - axV o j) / axV d j)
theorem edge_near {o d : V3} {b : B3} {j : Nat} (h : axV d j ≠ 0) : edge o d b j (nearR (axV o j) (axV d j) (axV b.lo j) (axV b.hi j)) := by
 refine ⟨h, ?_⟩; unfold nearR; split <;> simp
theorem edge_far {o d : V3} {b : B3} {j : Nat} (h : axV d j ≠ 0) : edge o d b j (farR (axV o j) (axV d j) (axV b.lo j) (axV b.hi j)) := by
 refine ⟨h, ?_⟩; unfold farR; split <;> simp
theorem mem_edgesQ {o d lo hi x : Rat} : x ∈ edgesQ o d lo hi ↔ d ≠ 0 ∧ 0 ≤ x ∧ (x = (lo - o) / d ∨ x = (hi - o) / d) := by
 unfold edgesQ
 split
 ·rename_i h; simp [h]
 ·rename_i h
  rw [List.mem_append]
  generalize (lo - o) / d = a
  generalize (hi - o) / d = b
  by_cases ha : 0 ≤ a <;> by_cases hb : 0 ≤ b <;> simp only [ha, hb, if_true, if_false, List.mem_singleton, List.not_mem_nil, or_false, false_or] <;> constructor <;> intro q
  ·exact ⟨h, by rcases q with rfl | rfl <;> assumption, q⟩
  ·exact q.2.2
  ·exact ⟨h, by subst q; assumption, .inl q⟩
  ·rcases q.2.2 with r | r
   ·exact r
   ·subst r; exact absurd q.2.1 hb
  ·exact ⟨h, by subst q; assumption, .inr q⟩
  ·rcases q.2.2 with r | r
   ·subst r; exact absurd q.2.1 ha
   ·exact r
  ·exact q.elim
  ·rcases q.2.2 with r | r
   ·subst r; exact absurd q.2.1 ha
   ·subst r; exact absurd q.2.1 hb
theorem mem_placesQ {o d : V3} {b : B3} {x : Rat} : x ∈ placesQ o d b ↔ x = 0 ∨ (0 ≤ x ∧ ∃ j, j < 3 ∧ edge o d b j x) := by
 unfold placesQ
 rw [List.mem_cons, List.mem_append, List.mem_append, mem_edgesQ, mem_edgesQ, mem_edgesQ]
 constructor
 ·rintro (h | (h | h) | h)
  ·exact .inl h
  ·exact .inr ⟨h.2.1, 0, by omega, h.1, h.2.2⟩
  ·exact .inr ⟨h.2.1, 1, by omega, h.1, h.2.2⟩
  ·exact .inr ⟨h.2.1, 2, by omega, h.1, h.2.2⟩
 ·rintro (h | ⟨h0, j, hj, h1, h2⟩)
  ·exact .inl h
  ·have : j = 0 ∨ j = 1 ∨ j = 2 := by omega
   rcases this with rfl | rfl | rfl
   ·exact .inr (.inl (.inl ⟨h1, h0, h2⟩))
   ·exact .inr (.inl (.inr ⟨h1, h0, h2⟩))
   ·exact .inr (.inr ⟨h1, h0, h2⟩)
theorem places_nonneg {o d : V3} {b : B3} {x : Rat} (h : x ∈ placesQ o d b) : 0 ≤ x := by
 rcases mem_placesQ.1 h with rfl | h
 ·exact Rat.le_refl
 ·exact h.1
def inN (o d : V3) (b : B3) (i : Nat) (t : Rat) : Prop := ∀ j, j < i → btw (axV o j + t * axV d j) (axV b.lo j) (axV b.hi j)
theorem inN_succ {o d : V3} {b : B3} {i : Nat} {t : Rat} : inN o d b (i + 1) t ↔ inN o d b i t ∧ btw (axV o i + t * axV d i) (axV b.lo i) (axV b.hi i) :=
 ⟨fun h => ⟨fun j hj => h j (by omega), h i (by omega)⟩, fun h j hj => by
  rcases Nat.lt_or_ge j i with c | c
  ·exact h.1 j c
  ·obtain rfl : j = i := by omega
   exact h.2⟩
theorem holds_inN {o d : V3} {b : B3} {t : Rat} : holds b (vat o d t) ↔ inN o d b 3 t :=
 ⟨fun h j hj => by
  have : j = 0 ∨ j = 1 ∨ j = 2 := by omega
  rcases this with rfl | rfl | rfl
  ·exact h.1
  ·exact h.2.1
  ·exact h.2.2, fun h => ⟨h 0 (by omega), h 1 (by omega), h 2 (by omega)⟩⟩
structure ClipI (o d : V3) (b : B3) (i : Nat) (s : S3) : Prop where
 mem : ∀ t, 0 ≤ t → (inN o d b i t ↔ s.from' ≤ t ∧ (s.op = true ∨ t ≤ s.to'))
 f0 : 0 ≤ s.from'
 fe : s.from' = 0 ∨ ∃ j, j < i ∧ edge o d b j s.from'
 te : s.op = false → ∃ j, j < i ∧ edge o d b j s.to'
 op : s.op = true ↔ ∀ j, j < i → axV d j = 0
 oz : s.op = true → s.from' = 0 ∧ s.to' = 0
theorem clipI {o d : V3} {b : B3} : ∀ i, match clipN o d b i with
  | none => ∀ t, ¬ inN o d b i t
  | some s => ClipI o d b i s
 | 0 => ⟨fun t ht => ⟨fun _ => ⟨ht, .inl rfl⟩, fun _ j hj => absurd hj (Nat.not_lt_zero _)⟩, Rat.le_refl, .inl rfl, fun h => Bool.noConfusion h, ⟨fun _ j hj => absurd hj (Nat.not_lt_zero _), fun _ => rfl⟩, fun _ => ⟨rfl, rfl⟩⟩
 | i + 1 => by
  have ih := clipI (o := o) (d := d) (b := b) i
  unfold clipN
  cases hN : clipN o d b i with
  | none =>
   rw [hN] at ih
   exact fun t h => ih t (inN_succ.1 h).1
  | some s =>
   rw [hN] at ih
   simp only at ih
   simp only [Option.bind_some, clip1]
   by_cases hd : axV d i = 0
   ·rw [if_pos hd]
    have e : ∀ t : Rat, axV o i + t * axV d i = axV o i := fun t => by rw [hd, Rat.mul_zero, Rat.add_zero]
    by_cases c : axV o i < axV b.lo i ∨ axV b.hi i < axV o i
    ·rw [if_pos c]
     intro t h
     have := (inN_succ.1 h).2
     rw [e] at this
     unfold btw at this
     grind
    ·rw [if_neg c]
     have hb : ∀ t : Rat, btw (axV o i + t * axV d i) (axV b.lo i) (axV b.hi i) := fun t => by rw [e]; unfold btw; grind
     refine ⟨fun t ht => ?_, ih.f0, ?_, ?_, ?_, ih.oz⟩
     ·rw [inN_succ, ← ih.mem t ht]
      exact ⟨fun h => h.1, fun h => ⟨h, hb t⟩⟩
     ·rcases ih.fe with h | ⟨j, hj, h⟩
      ·exact .inl h
      ·exact .inr ⟨j, by omega, h⟩
     ·intro h
      obtain ⟨j, hj, h⟩ := ih.te h
      exact ⟨j, by omega, h⟩
     ·rw [ih.op]
      constructor
      ·intro h j hj
       rcases Nat.lt_or_ge j i with c | c
       ·exact h j c
       ·obtain rfl : j = i := by omega
        exact hd
      ·exact fun h j hj => h j (by omega)
   ·rw [if_neg hd]
    have ax := fun t => axis (o := axV o i) (lo := axV b.lo i) (hi := axV b.hi i) hd t
    have en := edge_near (o := o) (b := b) hd
    have ef := edge_far (o := o) (b := b) hd
    generalize nearR (axV o i) (axV d i) (axV b.lo i) (axV b.hi i) = nn at *
    generalize farR (axV o i) (axV d i) (axV b.lo i) (axV b.hi i) = ff at *
    refine ⟨fun t ht => ?_, ?_, ?_, fun _ => ?_, ?_, fun h => Bool.noConfusion h⟩
    ·rw [inN_succ, ih.mem t ht, ax t, rmax_le, le_rmin]
     cases s.op <;> simp <;> grind
    ·have := le_rmax_left s.from' nn
     have := ih.f0
     simp only; grind
    ·rcases rmax_or s.from' nn with h | h
     ·simp only [h]
      rcases ih.fe with h | ⟨j, hj, h⟩
      ·exact .inl h
      ·exact .inr ⟨j, by omega, h⟩
     ·simp only [h]
      exact .inr ⟨i, by omega, en⟩
    ·cases ho : s.op with
     | true => simp only [if_true]; rcases rmin_or ff ff with h | h <;> simp only [h] <;> exact ⟨i, by omega, ef⟩
     | false =>
      simp only [Bool.false_eq_true, if_false]
      rcases rmin_or s.to' ff with h | h <;> simp only [h]
      ·obtain ⟨j, hj, h⟩ := ih.te ho
       exact ⟨j, by omega, h⟩
      ·exact ⟨i, by omega, ef⟩
    ·simp only [Bool.false_eq_true, false_iff]
     exact fun h => hd (h i (by omega))
theorem clipR_snoc (o d : V3) (b : B3) (l : List Rat) (x : Rat) : clipR o d b (l ++ [x]) = stepR o d b (clipR o d b l) x := by simp [clipR]
theorem clipR_says {o d : V3} {b : B3} (l : List Rat) : match clipR o d b l with
  | none => ∀ x, x ∈ l → ¬ holds b (vat o d x)
  | some (f, t) => (f ∈ l ∧ holds b (vat o d f)) ∧ (t ∈ l ∧ holds b (vat o d t)) ∧ ∀ x, x ∈ l → holds b (vat o d x) → f ≤ x ∧ x ≤ t := by
 obtain ⟨n, hn⟩ : ∃ n, n = l.length := ⟨_, rfl⟩
 induction n generalizing l with
 | zero => rw [List.eq_nil_of_length_eq_zero hn.symm]; exact fun x hx => by cases hx
 | succ n ih =>
  rcases List.eq_nil_or_concat l with rfl | ⟨m, y, rfl⟩
  ·cases hn
  ·have im := ih m (by simp at hn; omega)
   rw [List.concat_eq_append, clipR_snoc]
   unfold stepR
   by_cases h : holds b (vat o d y)
   ·rw [if_pos h]
    cases hm : clipR o d b m with
    | none =>
     rw [hm] at im
     simp only at im ⊢
     refine ⟨⟨by simp, h⟩, ⟨by simp, h⟩, fun x hx hh => ?_⟩
     rcases List.mem_append.1 hx with q | q
     ·exact absurd hh (im x q)
     ·rw [List.mem_singleton.1 q]; exact ⟨Rat.le_refl, Rat.le_refl⟩
    | some p =>
     obtain ⟨f, t⟩ := p
     rw [hm] at im
     simp only at im ⊢
     obtain ⟨h1, h2, h3⟩ := im
     refine ⟨?_, ?_, fun x hx hh => ?_⟩
     ·rcases rmin_or f y with q | q <;> rw [q]
      ·exact ⟨List.mem_append_left _ h1.1, h1.2⟩
      ·exact ⟨by simp, h⟩
     ·rcases rmax_or t y with q | q <;> rw [q]
      ·exact ⟨List.mem_append_left _ h2.1, h2.2⟩
      ·exact ⟨by simp, h⟩
     ·have a1 : rmin f y ≤ f ∧ rmin f y ≤ y := by unfold rmin; split <;> grind
      have a2 : t ≤ rmax t y ∧ y ≤ rmax t y := by unfold rmax; split <;> grind
      rcases List.mem_append.1 hx with q | q
      ·have := h3 x q hh
       constructor <;> grind
      ·rw [List.mem_singleton.1 q]
       exact ⟨a1.2, a2.2⟩
   ·rw [if_neg h]
    cases hm : clipR o d b m with
    | none =>
     rw [hm] at im
     simp only at im ⊢
     intro x hx
     rcases List.mem_append.1 hx with q | q
     ·exact im x q
     ·rw [List.mem_singleton.1 q]; exact h
    | some p =>
     obtain ⟨f, t⟩ := p
     rw [hm] at im
     simp only at im ⊢
     obtain ⟨h1, h2, h3⟩ := im
     refine ⟨⟨List.mem_append_left _ h1.1, h1.2⟩, ⟨List.mem_append_left _ h2.1, h2.2⟩, fun x hx hh => ?_⟩
     rcases List.mem_append.1 hx with q | q
     ·exact h3 x q hh
     ·rw [List.mem_singleton.1 q] at hh; exact absurd hh h
theorem clip_law (o d : V3) (b : B3) : spanR o d b = clipS o d b ∧ (clipR o d b (placesQ o d b)).isSome = clipOk o d b := by
 have hi := clipI (o := o) (d := d) (b := b) 3
 have hr := clipR_says (o := o) (d := d) (b := b) (placesQ o d b)
 unfold spanR clipS clipOk clipP
 cases hN : clipN o d b 3 with
 | none =>
  rw [hN] at hi
  simp only at hi
  cases hR : clipR o d b (placesQ o d b) with
  | none => exact ⟨rfl, rfl⟩
  | some p =>
   obtain ⟨f, t⟩ := p
   rw [hR] at hr
   exact absurd (holds_inN.1 hr.1.2) (hi f)
 | some s =>
  rw [hN] at hi
  simp only at hi
  simp only [Option.bind_some]
  have p0 : (0 : Rat) ∈ placesQ o d b := mem_placesQ.2 (.inl rfl)
  cases ho : s.op with
  | true =>
   have hz := hi.oz ho
   have hd : d = v0 := by
    have h := hi.op.1 ho
    exact V3.ext_iff'.2 ⟨h 0 (by omega), h 1 (by omega), h 2 (by omega)⟩
   have h0 : holds b (vat o d 0) := holds_inN.2 ((hi.mem 0 Rat.le_refl).2 ⟨by rw [hz.1]; exact Rat.le_refl, .inl ho⟩)
   have all0 : ∀ x, x ∈ placesQ o d b → x = 0 := fun x hx => by
    rcases mem_placesQ.1 hx with h | ⟨_, j, hj, h, _⟩
    ·exact h
    ·exact absurd (hi.op.1 ho j hj) h
   simp only [Bool.true_eq_false, false_and, if_false]
   cases hR : clipR o d b (placesQ o d b) with
   | none => rw [hR] at hr; exact absurd h0 (hr 0 p0)
   | some p =>
    obtain ⟨f, t⟩ := p
    rw [hR] at hr
    simp only at hr ⊢
    refine ⟨?_, rfl⟩
    rw [all0 f hr.1.1, all0 t hr.2.1.1, decide_eq_true hd]
    refine S3.ext_iff'.2 ⟨hz.1.symm, hz.2.symm, ho.symm⟩
  | false =>
   have hm : ∀ t, 0 ≤ t → (holds b (vat o d t) ↔ s.from' ≤ t ∧ t ≤ s.to') := fun t ht => by
    rw [holds_inN, hi.mem t ht, ho]; simp
   have hd : ¬ d = v0 := fun h => by
    have := hi.op.2 (fun j hj => by
     have : j = 0 ∨ j = 1 ∨ j = 2 := by omega
     rcases this with rfl | rfl | rfl <;> rw [h] <;> rfl)
    rw [ho] at this; cases this
   by_cases hlt : s.to' < s.from'
   ·rw [if_pos ⟨rfl, hlt⟩]
    cases hR : clipR o d b (placesQ o d b) with
    | none => exact ⟨rfl, rfl⟩
    | some p =>
     obtain ⟨f, t⟩ := p
     rw [hR] at hr
     have := (hm f (places_nonneg hr.1.1)).1 hr.1.2
     grind
   ·rw [if_neg (fun q => hlt q.2)]
    have hle : s.from' ≤ s.to' := by grind
    have f0 := hi.f0
    have t0 : 0 ≤ s.to' := by grind
    have pf : s.from' ∈ placesQ o d b := mem_placesQ.2 (by
     rcases hi.fe with h | ⟨j, hj, h⟩
     ·exact .inl h
     ·exact .inr ⟨f0, j, hj, h⟩)
    have pt : s.to' ∈ placesQ o d b := mem_placesQ.2 (by
     obtain ⟨j, hj, h⟩ := hi.te ho
     exact .inr ⟨t0, j, hj, h⟩)
    have hf : holds b (vat o d s.from') := (hm _ f0).2 ⟨Rat.le_refl, hle⟩
    have ht : holds b (vat o d s.to') := (hm _ t0).2 ⟨hle, Rat.le_refl⟩
    cases hR : clipR o d b (placesQ o d b) with
    | none => rw [hR] at hr; exact absurd hf (hr _ pf)
    | some p =>
     obtain ⟨f, t⟩ := p
     rw [hR] at hr
     simp only at hr ⊢
     refine ⟨?_, rfl⟩
     have a1 := hr.2.2 _ pf hf
     have a2 := hr.2.2 _ pt ht
     have a3 := (hm f (places_nonneg hr.1.1)).1 hr.1.2
     have a4 := (hm t (places_nonneg hr.2.1.1)).1 hr.2.1.2
     refine S3.ext_iff'.2 ⟨?_, ?_, ?_⟩
     ·simp only [Option.getD_some]; grind
     ·simp only [Option.getD_some]; grind
     ·simp only [Option.getD_some, ho, decide_eq_false hd]
end Go.K
end
section
namespace Go.K.S
open Go Go.K
theorem Sn_spanR {o d : VL} {b : BL} {k : Nat} (ho : Vn k o) (hd : Vn k d) (hb : Bn k b) (hk : 0 < k) : Sn (3 * k + 1) (spanR (vv o) (vv d) (bv b)) := by
 have hr := clipR_says (o := vv o) (d := vv d) (b := bv b) (placesQ (vv o) (vv d) (bv b))
 have hq : ∀ x, x ∈ placesQ (vv o) (vv d) (bv b) → Qn (3 * k + 1) x := fun q h => by
  rw [placesQ] at h
  rcases List.mem_cons.1 h with rfl | h
  ·exact Qn_zero (by omega)
  ·have po := Pn_vv ho hk
   have pd := Pn_vv hd hk
   have pb := Bq_bv hb hk
   rcases List.mem_append.1 h with h | h
   ·rcases List.mem_append.1 h with h | h
    ·exact Qn_edges po.x pd.x pb.lo.x pb.hi.x hk q h
    ·exact Qn_edges po.y pd.y pb.lo.y pb.hi.y hk q h
   ·exact Qn_edges po.z pd.z pb.lo.z pb.hi.z hk q h
 unfold spanR
 cases hR : clipR (vv o) (vv d) (bv b) (placesQ (vv o) (vv d) (bv b)) with
 | none => exact ⟨Qn_zero (by omega), Qn_zero (by omega)⟩
 | some p =>
  obtain ⟨f, t⟩ := p
  rw [hR] at hr
  exact ⟨hq _ hr.1.1, hq _ hr.2.1.1⟩
end Go.K.S
end
section
namespace Go.K
open Go Go.K.S
theorem within_law {o d : V3} {b : B3} {s : Rat} (hs : 0 ≤ s) : decide (holds b (vat o d s)) = (clipOk o d b && (decide ((clipS o d b).from' ≤ s) && ((clipS o d b).op || decide (s ≤ (clipS o d b).to')))) := by
 have hi := clipI (o := o) (d := d) (b := b) 3
 have hsome : ∀ r, clipP o d b = some r → clipS o d b = r ∧ clipOk o d b = true := fun r h => by unfold clipS clipOk; rw [h]; exact ⟨rfl, rfl⟩
 have hnone : clipP o d b = none → clipOk o d b = false := fun h => by unfold clipOk; rw [h]; rfl
 cases hN : clipN o d b 3 with
 | none =>
  rw [hN] at hi
  rw [hnone (by unfold clipP; rw [hN]; rfl), Bool.false_and]
  exact decide_eq_false fun h => hi s (holds_inN.1 h)
 | some r =>
  rw [hN] at hi
  simp only at hi
  have hm := hi.mem s hs
  by_cases c : r.op = false ∧ r.to' < r.from'
  ·rw [hnone (by unfold clipP; rw [hN]; simp only [Option.bind_some, if_pos c]), Bool.false_and]
   refine decide_eq_false fun h => ?_
   have := hm.1 (holds_inN.1 h)
   rw [c.1] at this
   rcases this with ⟨h1, h2 | h2⟩
   ·cases h2
   ·have := c.2; grind
  ·obtain ⟨h1, h2⟩ := hsome r (by unfold clipP; rw [hN]; simp only [Option.bind_some, if_neg c])
   rw [h1, h2, Bool.true_and]
   have : (decide (r.from' ≤ s) && (r.op || decide (s ≤ r.to'))) = decide (r.from' ≤ s ∧ (r.op = true ∨ s ≤ r.to')) := by
    rw [Bool.decide_and, Bool.decide_or]; simp
   rw [this]
   exact decide_eq_decide.2 (holds_inN.trans hm)
end Go.K
namespace Go.K.S
open Go Go.K
theorem Sn_clipS {o d : VL} {b : BL} {k : Nat} (ho : Vn k o) (hd : Vn k d) (hb : Bn k b) (hk : 0 < k) : Sn (3 * k + 1) (clipS (vv o) (vv d) (bv b)) := by
 rw [← (clip_law (vv o) (vv d) (bv b)).1]; exact Sn_spanR ho hd hb hk
end Go.K.S
end
section
namespace Go.K
open Go Go.K.S
theorem rmin_le_left (a b : Rat) : rmin a b ≤ a := by unfold rmin; split <;> grind
theorem rmin_le_right (a b : Rat) : rmin a b ≤ b := by unfold rmin; split <;> grind
theorem le_rmax_right (a b : Rat) : b ≤ rmax a b := by unfold rmax; split <;> grind
theorem btw_widen {x lo hi lo' hi' : Rat} (h : btw x lo hi) : btw x (rmin lo lo') (rmax hi hi') := by
 unfold btw at *
 have := rmin_le_left lo lo'
 have := le_rmax_left hi hi'
 constructor <;> grind
theorem btw_new (x lo hi : Rat) : btw x (rmin lo x) (rmax hi x) := ⟨rmin_le_right _ _, le_rmax_right _ _⟩
theorem holds_join {b c : B3} {p : V3} (h : holds b p) : holds (bjoin b c) p := ⟨btw_widen h.1, btw_widen h.2.1, btw_widen h.2.2⟩
theorem holds_new (b : B3) (v : VL) : holds (bjoin b (bv (pbox v))) (vv v) := ⟨btw_new _ _ _, btw_new _ _ _, btw_new _ _ _⟩
theorem holds_self (v : VL) : holds (bv (pbox v)) (vv v) := ⟨⟨Rat.le_refl, Rat.le_refl⟩, ⟨Rat.le_refl, Rat.le_refl⟩, ⟨Rat.le_refl, Rat.le_refl⟩⟩
theorem around_snoc (l : List VL) (v : VL) : bjoins ((l ++ [v]).map pbox) = if l = [] then bv (pbox v) else bjoin (bjoins (l.map pbox)) (bv (pbox v)) := by
 by_cases h : l = []
 ·subst h; rfl
 ·rw [if_neg h, List.map_append, List.map_cons, List.map_nil, bjoins_snoc _ _ (by simpa using h)]
theorem around_says (l : List VL) (hl : l ≠ []) : (∀ v, v ∈ l → holds (bjoins (l.map pbox)) (vv v)) ∧ (∃ v, v ∈ l ∧ rv v.x = (bjoins (l.map pbox)).lo.x) ∧ ∃ v, v ∈ l ∧ rv v.z = (bjoins (l.map pbox)).hi.z := by
 obtain ⟨n, hn⟩ : ∃ n, n = l.length := ⟨_, rfl⟩
 induction n generalizing l with
 | zero => exact absurd (List.eq_nil_of_length_eq_zero hn.symm) hl
 | succ n ih =>
  rcases List.eq_nil_or_concat l with rfl | ⟨m, y, rfl⟩
  ·exact absurd rfl hl
  ·rw [List.concat_eq_append, around_snoc]
   by_cases hm : m = []
   ·subst hm
    rw [if_pos rfl]
    refine ⟨fun v hv => ?_, ⟨y, by simp, rfl⟩, ⟨y, by simp, rfl⟩⟩
    rw [List.nil_append, List.mem_singleton] at hv
    subst hv
    exact holds_self v
   ·rw [if_neg hm]
    obtain ⟨i1, ⟨v1, m1, e1⟩, v2, m2, e2⟩ := ih m hm (by simp at hn; omega)
    refine ⟨fun v hv => ?_, ?_, ?_⟩
    ·rcases List.mem_append.1 hv with q | q
     ·exact holds_join (i1 v q)
     ·rw [List.mem_singleton.1 q]; exact holds_new _ _
    ·show ∃ v, v ∈ m ++ [y] ∧ rv v.x = rmin (bjoins (m.map pbox)).lo.x (rv y.x)
     rcases rmin_or (bjoins (m.map pbox)).lo.x (rv y.x) with q | q <;> rw [q]
     ·exact ⟨v1, List.mem_append_left _ m1, e1⟩
     ·exact ⟨y, by simp, rfl⟩
    ·show ∃ v, v ∈ m ++ [y] ∧ rv v.z = rmax (bjoins (m.map pbox)).hi.z (rv y.z)
     rcases rmax_or (bjoins (m.map pbox)).hi.z (rv y.z) with q | q <;> rw [q]
     ·exact ⟨v2, List.mem_append_left _ m2, e2⟩
     ·exact ⟨y, by simp, rfl⟩
theorem scat_dVs (l m : List VL) : Ω .scat (Ψ .dVs l) (Ψ .dVs m) = Ψ .dVs (l ++ m) := by simp [w_scat, p_dVs]
end Go.K
namespace Go.K.S
open Go Go.K
end Go.K.S
end
