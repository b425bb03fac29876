/-
  Parts of the proof, joined by a program of this work: KStr2, KSplit, KNumb, KDigs, KDec, KDumpS, KFilmP, KLawFilmBack.
-/
import Derived.Test.YtlolgojfeijjhaaGreatDoorQao
import Derived.Test.YtlolgojfeijjhaaGreatDoorQap
import Derived.Lib.Bytealg
import Derived.Test.YtlolgojfeijjhaaGreatDoorQar
import Derived.Test.YtlolgojfeijjhaaGreatDoorQaq
set_option linter.unusedSimpArgs false
set_option linter.unusedVariables false
set_option maxHeartbeats 8000000
set_option maxRecDepth 20000
section
namespace Go.K
open Go
def parseS (l : List Nat) : Option Rat :=
 let neg := decide (l.head? = some 45)
 let s := if neg then l.drop 1 else l
 let n := digS s
 if n = 0 then none
 else if n = s.length then some (mkRat (sg neg (numS (s.take n))) 1)
 else if s[n]? = some 47 ∧ digS (s.drop (n + 1)) ≠ 0 ∧ n + 1 + digS (s.drop (n + 1)) = s.length ∧ numS (s.drop (n + 1)) ≠ 0 then some (mkRat (sg neg (numS (s.take n))) (numS (s.drop (n + 1))))
 else none
theorem digS_take (l : List Nat) : l.take (digS l) = l.takeWhile isDig := by
 unfold digS
 exact List.prefix_iff_eq_take.1 (List.takeWhile_prefix isDig) |>.symm
theorem digS_le (l : List Nat) : digS l ≤ l.length := by
 unfold digS
 exact (List.takeWhile_prefix isDig).length_le
theorem dig_of {l : List Nat} {c : Nat} (h : c ∈ l.take (digS l)) : 48 ≤ c ∧ c ≤ 57 := by
 rw [digS_take] at h
 have : isDig c = true := by
  have := List.all_takeWhile (p := isDig) (l := l)
  exact List.all_eq_true.1 this c h
 unfold isDig at this
 simpa using this
end Go.K
namespace Go.K.S
open Go Go.K
end Go.K.S
end
section
namespace Go.K
open Go
def hdC (c : Nat) (l : List Nat) : List Nat := l.takeWhile (· != c)
def cut (c : Nat) (l : List Nat) : List Nat := (l.dropWhile (· != c)).drop 1
def rmd (c : Nat) (l : List Nat) : Nat → List Nat
 | 0 => l
 | i + 1 => cut c (rmd c l i)
def spl (c : Nat) (l : List Nat) : List (List Nat) := (List.range (l.count c + 1)).map fun i => hdC c (rmd c l i)
theorem cut_eq {c : Nat} : ∀ {l : List Nat}, c ∈ l → l = hdC c l ++ c :: cut c l
 | [], h => absurd h List.not_mem_nil
 | x :: r, h => by
  by_cases hx : x = c
  ·subst hx; simp [hdC, cut]
  ·have hr : c ∈ r := by
    rcases List.mem_cons.1 h with q | q
    ·exact absurd q.symm hx
    ·exact q
   have ih := cut_eq hr
   have hb : (x != c) = true := by simp [hx]
   unfold hdC cut at *
   rw [List.takeWhile_cons, List.dropWhile_cons, if_pos hb, if_pos hb, List.cons_append, ← ih]
theorem hdC_not (c : Nat) : ∀ (l : List Nat), c ∉ hdC c l
 | [] => List.not_mem_nil
 | x :: r => by
  unfold hdC
  rw [List.takeWhile_cons]
  split
  ·rename_i h
   intro q
   rcases List.mem_cons.1 q with q | q
   ·subst q; simp at h
   ·exact hdC_not c r q
  ·exact List.not_mem_nil
theorem hdC_none {c : Nat} : ∀ {l : List Nat}, c ∉ l → hdC c l = l
 | [], _ => rfl
 | x :: r, h => by
  have hx : (x != c) = true := by
   simp only [bne_iff_ne, ne_eq]
   intro q; subst q; exact h (List.mem_cons_self ..)
  unfold hdC
  rw [List.takeWhile_cons, if_pos hx]
  exact congrArg _ (hdC_none fun q => h (List.mem_cons_of_mem _ q))
theorem count_cut {c : Nat} {l : List Nat} (h : c ∈ l) : (cut c l).count c + 1 = l.count c := by
 have e := cut_eq h
 have n := List.count_eq_zero.2 (hdC_not c l)
 conv => rhs; rw [e]
 rw [List.count_append, n, List.count_cons_self]; omega
theorem count_rmd (c : Nat) (l : List Nat) : ∀ i, i ≤ l.count c → (rmd c l i).count c = l.count c - i
 | 0, _ => rfl
 | i + 1, h => by
  have ih := count_rmd c l i (by omega)
  have hm : c ∈ rmd c l i := List.count_pos_iff.1 (by omega)
  have := count_cut hm
  show (cut c (rmd c l i)).count c = _
  omega
theorem rmd_mem {c : Nat} {l : List Nat} {i : Nat} (h : i < l.count c) : c ∈ rmd c l i := List.count_pos_iff.1 (by rw [count_rmd c l i (by omega)]; omega)
theorem rmd_end {c : Nat} {l : List Nat} : c ∉ rmd c l (l.count c) := List.count_eq_zero.1 (by rw [count_rmd c l _ (Nat.le_refl _)]; omega)
theorem cut_sub (c : Nat) (l : List Nat) : ∀ x, x ∈ cut c l → x ∈ l := fun x h => (List.dropWhile_sublist _).subset (List.mem_of_mem_drop h)
theorem cut_len (c : Nat) (l : List Nat) : (cut c l).length ≤ l.length := by
 unfold cut
 rw [List.length_drop]
 have := (List.dropWhile_sublist (l := l) (· != c)).length_le
 omega
theorem chs_rmd {c : Nat} {l : List Nat} (h : chs l) : ∀ i, chs (rmd c l i)
 | 0 => h
 | i + 1 => fun x hx => chs_rmd h i x (cut_sub c _ x hx)
theorem rmd_len (c : Nat) (l : List Nat) : ∀ i, (rmd c l i).length ≤ l.length
 | 0 => Nat.le_refl _
 | i + 1 => Nat.le_trans (cut_len c _) (rmd_len c l i)
theorem take_hd {c : Nat} {l : List Nat} (h : c ∈ l) : l.take (hdC c l).length = hdC c l := (congrArg (List.take (hdC c l).length) (cut_eq h)).trans List.take_left
theorem drop_hd {c : Nat} {l : List Nat} (h : c ∈ l) : l.drop ((hdC c l).length + 1) = cut c l := by
 refine (congrArg (List.drop ((hdC c l).length + 1)) (cut_eq h)).trans ?_
 rw [← List.drop_drop, List.drop_left]; rfl
theorem hd_lt {c : Nat} {l : List Nat} (h : c ∈ l) : (hdC c l).length + 1 ≤ l.length := by
 have := congrArg List.length (cut_eq h)
 rw [List.length_append, List.length_cons] at this
 omega
theorem rmd_cut (c : Nat) (l : List Nat) : ∀ i, rmd c (cut c l) i = rmd c l (i + 1)
 | 0 => rfl
 | i + 1 => by show cut c (rmd c (cut c l) i) = cut c (rmd c l (i + 1)); rw [rmd_cut c l i]
theorem spl_cons {c : Nat} {a b : List Nat} (ha : c ∉ a) : spl c (a ++ c :: b) = a :: spl c b := by
 have hd : hdC c (a ++ c :: b) = a := by
  unfold hdC
  rw [List.takeWhile_append_of_pos (fun x hx => by
   simp only [bne_iff_ne, ne_eq]; intro q; subst q; exact ha hx)]
  simp
 have hc : cut c (a ++ c :: b) = b := by
  have e := cut_eq (c := c) (l := a ++ c :: b) (by simp)
  rw [hd] at e
  have := List.append_cancel_left e
  exact (List.cons.inj this).2.symm
 have hn : (a ++ c :: b).count c = b.count c + 1 := by
  rw [List.count_append, List.count_eq_zero.2 ha, List.count_cons_self]; omega
 unfold spl
 rw [hn, List.range_succ_eq_map, List.map_cons, List.map_map]
 refine congr (congrArg _ hd) (List.map_congr_left fun i _ => ?_)
 show hdC c (rmd c (a ++ c :: b) (i + 1)) = _
 rw [← rmd_cut, hc]
theorem spl_none {c : Nat} {a : List Nat} (ha : c ∉ a) : spl c a = [a] := by
 unfold spl
 rw [List.count_eq_zero.2 ha]
 show [hdC c a] = _
 rw [hdC_none ha]
def ixB (c : Nat) (l : List Nat) : Int := if c ∈ l then Ω .ci (hdC c l).length else -1
theorem ixB_mem {c : Nat} {l : List Nat} (h : c ∈ l) : ixB c l = Ω .ci (hdC c l).length := if_pos h
theorem u8_eq {b : UInt8} {c : Nat} (hc : c < 256) : (b == UInt8.ofNat c) = decide (b.toNat = c) := by
 by_cases h : b.toNat = c
 ·rw [decide_eq_true h, beq_iff_eq]; rw [← h]; simp
 ·rw [decide_eq_false h, beq_eq_false_iff_ne]
  intro q; apply h; rw [q]; simp; omega
theorem index_lib {c : Nat} (hc : c < 256) : ∀ (l : List UInt8), Lib.indexByte l (UInt8.ofNat c) = ixB c (l.map fun b => b.toNat)
 | [] => rfl
 | b :: l => by
  have ih := index_lib hc l
  unfold Lib.indexByte
  rw [u8_eq hc, ih]
  by_cases h : b.toNat = c
  ·rw [decide_eq_true h, if_pos rfl, ixB_mem (by simp [h])]
   simp [hdC, h, w_ci]
  ·rw [decide_eq_false h, if_neg (by decide)]
   have hh : hdC c ((b :: l).map fun b => b.toNat) = b.toNat :: hdC c (l.map fun b => b.toNat) := by
    unfold hdC
    rw [List.map_cons, List.takeWhile_cons, if_pos (by simp [h])]
   by_cases hm : c ∈ l.map fun b => b.toNat
   ·rw [ixB_mem hm, ixB_mem (by rw [List.map_cons]; exact List.mem_cons_of_mem _ hm), hh]
    have : ((Ω .ci (hdC c (l.map fun b => b.toNat)).length) == (-1 : Int)) = false := by
     rw [beq_eq_false_iff_ne, w_ci]; omega
    rw [this, if_neg (by decide)]
    simp only [w_ci, List.length_cons]; omega
   ·have e1 : ixB c (l.map fun b => b.toNat) = -1 := if_neg hm
    have e2 : ixB c ((b :: l).map fun b => b.toNat) = -1 := if_neg (by
     rw [List.map_cons, List.mem_cons]
     rintro (q | q)
     ·exact h q.symm
     ·exact hm q)
    rw [e1, e2]; rfl
theorem count_lib {c : Nat} (hc : c < 256) : ∀ (l : List UInt8), Lib.countByte l (UInt8.ofNat c) = (l.map fun b => b.toNat).count c
 | [] => rfl
 | b :: l => by
  have ih := count_lib hc l
  unfold Lib.countByte at *
  rw [List.count_cons, List.map_cons, List.count_cons, ih, u8_eq hc]
  by_cases h : b.toNat = c <;> simp [h]
theorem spl_ex (c : Nat) (l : List Nat) : ∃ E : Nat → List D, E 0 = Ω .srep (l.count c + 1) (.s ⟨#[]⟩) ∧ (∀ i, i ≤ l.count c → Ω .sset (E i) i (.s (Ψ .str (hdC c (rmd c l i)))) = E (i + 1)) ∧
  (∀ i, i ≤ l.count c + 1 → Ω .slen (E i) = l.count c + 1) ∧ Ω .ssub (E (l.count c + 1)) 0 (l.count c + 1) = E (l.count c + 1) ∧ E (l.count c + 1) = Ψ .strs ((spl c l).map (Ψ .str)) := by
 have hE : ∀ i, ((((List.range i).map fun i => D.s (Ψ .str (hdC c (rmd c l i)))) ++ List.replicate (l.count c + 1 - i) (D.s ⟨#[]⟩)) : List D).length = i + (l.count c + 1 - i) := fun i => by simp
 refine ⟨fun i => ((List.range i).map fun i => D.s (Ψ .str (hdC c (rmd c l i)))) ++ List.replicate (l.count c + 1 - i) (D.s ⟨#[]⟩), by simp [w_srep], fun i hi => ?_, fun i hi => ?_, ?_, ?_⟩
 ·rw [w_sset]
  show _ = ((List.range (i + 1)).map fun i => D.s (Ψ .str (hdC c (rmd c l i)))) ++ List.replicate (l.count c + 1 - (i + 1)) (D.s ⟨#[]⟩)
  rw [List.set_append_right _ _ (by simp), List.length_map, List.length_range, Nat.sub_self, List.range_succ, List.map_append, List.append_assoc]
  refine congrArg _ ?_
  rw [show l.count c + 1 - i = l.count c + 1 - (i + 1) + 1 by omega, List.replicate_succ, List.set_cons_zero]; rfl
 ·rw [w_slen, hE]; omega
 ·simp only [w_ssub, List.drop_zero]
  exact List.take_of_length_le (by rw [hE]; omega)
 ·rw [p_strs, spl]
  simp
end Go.K
namespace Go.K.S
open Go Go.K
theorem two_args {imm : Nat → Prop} {w : World} {B : ByteArray} {n : Int} {vs : Array Value} (hs : vs.size = [D.s B, D.i .u8 n].length) (h : ∀ j, j < [D.s B, D.i .u8 n].length → RepD imm w ([D.s B, D.i .u8 n].getD j .np) (vs.getD j undef)) :
  vs = #[.string B, .int .u8 n] := by
 have h0 : RepC imm w (.s B) (vs.getD 0 undef) := h 0 (by simp)
 have h1 : RepC imm w (.i .u8 n) (vs.getD 1 undef) := h 1 (by simp)
 have f0 : ∀ v, RepC imm w (.s B) v → v = .string B := fun v h => by cases h; rfl
 have f1 : ∀ v, RepC imm w (.i .u8 n) v → v = .int .u8 n := fun v h => by cases h; rfl
 have e0 := f0 _ h0
 have e1 := f1 _ h1
 simp only [List.length_cons, List.length_nil] at hs
 refine Array.ext (by simpa using hs) fun i hi1 hi2 => ?_
 simp only [Array.getD, hs] at e0 e1
 have : i = 0 ∨ i = 1 := by omega
 rcases this with rfl | rfl
 ·simpa using e0
 ·simpa using e1
theorem indexB_good (B : ByteArray) (c : Nat) (hc : c < 256) : Good P F.internal_bytealg_IndexByteString [.d (.s B), .d (.i .u8 (Ω .ci c))] [] (.d (.i .i64 (ixB c (byt B)))) [] :=
 good_of_nat NX.internal_bytealg_IndexByteString (ds := [.s B, .i .u8 (Ω .ci c)]) fun imm w vs hs hr => by
  rw [two_args hs hr]
  refine ⟨_, Lib.run_indexByteString _ _ _, ?_⟩
  have e : (Ω .ci c).toNat.toUInt8 = UInt8.ofNat c := by rw [w_ci]; rfl
  rw [e, index_lib hc]
  exact .i _ _
theorem countB_good (B : ByteArray) (c : Nat) (hc : c < 256) : Good P F.internal_bytealg_CountString [.d (.s B), .d (.i .u8 (Ω .ci c))] [] (.d (.i .i64 (Ω .ci ((byt B).count c)))) [] :=
 good_of_nat NX.internal_bytealg_CountString (ds := [.s B, .i .u8 (Ω .ci c)]) fun imm w vs hs hr => by
  rw [two_args hs hr]
  refine ⟨_, Lib.run_countString _ _ _, ?_⟩
  have e : (Ω .ci c).toNat.toUInt8 = UInt8.ofNat c := by rw [w_ci]; rfl
  rw [e, count_lib hc, ← w_ci]
  exact .i _ _
theorem indexByte_good (B : ByteArray) (c : Nat) (hc : c < 256) : Good P F.internal_stringslite_IndexByte [.d (.s B), .d (.i .u8 (Ω .ci c))] [] (.d (.i .i64 (ixB c (byt B)))) [] := by
 refine G.internal_stringslite_IndexByte fun C C2 hC hC2 => ?_
 have g := indexB_good B c hc
 generalize ixB c (byt B) = R at *
 exact rs trivial
theorem index0_good (B S : ByteArray) (c : Nat) (hS : byt S = [c]) : Good P F.internal_stringslite_Index [.d (.s B), .d (.s S)] [] (.d (.i .i64 (ixB c (byt B)))) [] := by
 refine G.internal_stringslite_Index fun C C2 hC hC2 => ?_
 have hc : c < 256 := chs_byt S c (by rw [hS]; exact List.mem_singleton.2 rfl)
 have g := indexByte_good B c hc
 have hz : Ω .bsz S = 1 := by rw [bsz_byt, hS]; rfl
 have hg : Ω .bget S 0 = some c := by rw [bget_byt, hS]; rfl
 have hb := beqs_byt S B
 rw [hS] at hb
 have q1 : Ω .eq (Ω .ci (Ω .bsz S)) 0 = false := by rw [hz]; rfl
 have q2 : Ω .eq (Ω .ci (Ω .bsz S)) 1 = true := by rw [hz]; rfl
 cases h : Ω .beqs S B with
 | true =>
  rw [h] at hb
  have hB : [c] = byt B := of_decide_eq_true hb.symm
  have e : ixB c (byt B) = 0 := by rw [← hB, ixB_mem (List.mem_singleton.2 rfl)]; simp [hdC, w_ci]
  rw [e]
  exact rs trivial
 | false =>
  generalize ixB c (byt B) = R at *
  exact rs trivial
theorem index1_good (B S : ByteArray) (c : Nat) (hS : byt S = [c]) : Good P F.strings_Index [.d (.s B), .d (.s S)] [] (.d (.i .i64 (ixB c (byt B)))) [] := by
 refine G.strings_Index fun C C2 hC hC2 => ?_
 have g := index0_good B S c hS
 generalize ixB c (byt B) = R at *
 exact rs trivial
theorem count_good (B S : ByteArray) (c : Nat) (hS : byt S = [c]) : Good P F.strings_Count [.d (.s B), .d (.s S)] [] (.d (.i .i64 (Ω .ci ((byt B).count c)))) [] := by
 refine G.strings_Count fun C C2 hC hC2 => ?_
 have hc : c < 256 := chs_byt S c (by rw [hS]; exact List.mem_singleton.2 rfl)
 have g := countB_good B c hc
 have hz : Ω .bsz S = 1 := by rw [bsz_byt, hS]; rfl
 have hg : Ω .bget S 0 = some c := by rw [bget_byt, hS]; rfl
 have q1 : Ω .eq (Ω .ci (Ω .bsz S)) 0 = false := by rw [hz]; rfl
 have q2 : Ω .eq (Ω .ci (Ω .bsz S)) 1 = true := by rw [hz]; rfl
 generalize (byt B).count c = R at *
 exact rs trivial
theorem gensplit_good (l : List Nat) (hl : chs l) (hlen : l.length < 1099511627776) (S : ByteArray) (c : Nat) (hS : byt S = [c]) :
  Good P F.strings_genSplit [.d (.s (Ψ .str l)), .d (.s S), .d (.i .i64 0), .d (.i .i64 (-1))] [] (.d (.sl (Ψ .strs ((spl c l).map (Ψ .str))))) [] := by
 refine G.strings_genSplit fun C C2 hC hC2 => ?_
 have hz : Ω .bsz S = 1 := by rw [bsz_byt, hS]; rfl
 have g1 := count_good (Ψ .str l) S c hS
 have hle := List.count_le_length (a := c) (l := l)
 have hsz := bsz_str hl
 rw [byt_str hl] at g1
 obtain ⟨E, hE0, hEs, hEl, hEt, hEe⟩ := spl_ex c l
 obtain ⟨N, hN⟩ : ∃ N, N = l.count c := ⟨_, rfl⟩
 have hrm := fun i (h : i < N) => rmd_mem (c := c) (l := l) (i := i) (by omega)
 have hre := rmd_end (c := c) (l := l)
 have h0 : rmd c l 0 = l := rfl
 rw [← hN] at g1 hE0 hEs hEl hEt hEe hle hre
 rw [← hEe]
 have b1 : Ω .beqs S ⟨#[]⟩ = false := by rw [beqs_byt, hS]; rfl
 have w1 : Ω .wrap .i64 (Ω .ci N + 1) = Ω .ci (N + 1) := wrap_succ (by omega)
 have w2 : Ω .wrap .i64 (Ω .ci (Ω .bsz (Ψ .str l)) + 1) = Ω .ci (l.length + 1) := by rw [hsz]; exact wrap_succ (by omega)
 have m1 : Ω .imin (Ω .ci (N + 1)) (Ω .ci (l.length + 1)) = Ω .ci (N + 1) := by rw [w_imin]; simp only [wz]; omega
 have w3 : Ω .wrap .i64 (Ω .ci (N + 1) - 1) = Ω .ci N := by rw [wrap64 (by simp only [wz]; omega) (by simp only [wz]; omega)]; simp only [wz]; omega
 have q0 : Ω .eq (-1) 0 = false := rfl
 have q1 : Ω .lt (-1) 0 = true := rfl
 refine rs ?_
 rw [w1, w2, m1, w3]
 refine ⟨by simp only [wz]; omega, by simp only [wz]; omega, by simp only [wz]; omega, by simp only [wz]; omega, ?_⟩
 refine LoopG.intro (σ := Nat) [0, 1, 2, 3, 9, 10] [1050] (fun i => [.d (.s (Ψ .str (rmd c l i))), .d (.s S), .d (.i .i64 0), .d (.i .i64 (Ω .ci N)), .own 1050 1, .d (.i .i64 (Ω .ci i))]) (fun i => [.row true T.string 1 (E i)])
  (fun i => i ≤ N) (fun i => N - i) 0 [1801] (by omega) ⟨rfl, rfl, by rw [hE0]; rfl⟩ ?_
 intro i hi
 have hch := chs_rmd (c := c) hl i
 have hzi := bsz_str hch
 have hli := rmd_len c l i
 have hEi := hEl i (by omega)
 have hEs1 := hEs i hi
 have ws := wrap_succ (n := i) (by omega)
 have e1 : Ω .ilt (Ω .ci i) (Ω .ci (Ω .slen (E i))) := by rw [hEi]; simp only [wz]; omega
 have e2 : Ω .nlt i (Ω .slen (E i)) := by rw [hEi]; simp only [wz]; omega
 rcases Nat.eq_or_lt_of_le hi with hi1 | hi1
 ·have q2 : Ω .lt (Ω .ci i) (Ω .ci N) = false := by rw [lt_false]; simp only [wz]; omega
  subst hi1
  rw [hdC_none hre] at hEs1
  generalize Ψ .str (rmd c l i) = B at *
  refine rs ?_
  rw [ws, hEs1]
  have hl2 := hEl (i + 1) (by omega)
  have t1 : Ω .nsub (Ω .tn (Ω .ci (i + 1))) 0 = i + 1 := rfl
  have t2 : Ω .leb (Ω .nadd 0 (i + 1)) (Ω .slen (E (i + 1))) = true := by rw [hl2]; rw [w_nadd, w_leb]; exact decide_eq_true (by omega)
  rw [t1, t2]
  refine ⟨by simp only [wz]; omega, by rw [hl2]; simp only [wz]; omega, by simp only [wz]; omega, by simp, ?_⟩
  exact congrArg (fun x => V.d (.sl x)) hEt
 ·have q2 : Ω .lt (Ω .ci i) (Ω .ci N) = true := by rw [lt_true]; simp only [wz]; omega
  have hm := hrm i hi1
  have gi := index1_good (Ψ .str (rmd c l i)) S c hS
  rw [byt_str hch, ixB_mem hm] at gi
  have hlt := hd_lt hm
  have x1 : Ω .bext (Ψ .str (rmd c l i)) 0 (hdC c (rmd c l i)).length = Ψ .str (hdC c (rmd c l i)) := by rw [bext_str hch, List.drop_zero, Nat.sub_zero, take_hd hm]
  have x2 : Ω .bext (Ψ .str (rmd c l i)) ((hdC c (rmd c l i)).length + 1) (Ω .bsz (Ψ .str (rmd c l i))) = Ψ .str (rmd c l (i + 1)) := by
   rw [hzi, bext_str hch, drop_hd hm, List.take_of_length_le (by rw [← drop_hd hm, List.length_drop]; omega)]; rfl
  rw [← x1] at hEs1
  generalize hmm : (hdC c (rmd c l i)).length = m at *
  have k1 : Ω .lt (Ω .ci m) 0 = false := by rw [lt_false]; simp only [wz]; omega
  have k2 : Ω .wrap .i64 (Ω .ci m + 0) = Ω .ci m := by rw [wrap64 (by simp only [wz]; omega) (by simp only [wz]; omega)]; simp only [wz]; omega
  have k3 : Ω .wrap .i64 (Ω .ci m + Ω .ci (Ω .bsz S)) = Ω .ci (m + 1) := by rw [hz]; exact wrap_add (by omega)
  have k4 : Ω .ile (Ω .ci m) (Ω .ci (Ω .bsz (Ψ .str (rmd c l i)))) := by rw [hzi]; simp only [wz]; omega
  have k5 : Ω .ile (Ω .ci (m + 1)) (Ω .ci (Ω .bsz (Ψ .str (rmd c l i)))) := by rw [hzi]; simp only [wz]; omega
  generalize Ψ .str (rmd c l i) = B at *
  refine rs ?_
  rw [k2, k3]
  refine ⟨by simp only [wz]; omega, k4, by simp only [wz]; omega, e1, e2, by simp only [wz]; omega, k5, by simp only [wz]; omega, i + 1, [1050], by omega, by omega, rfl, ?_, congrArg (fun x => [Blk.row true T.string 1 x]) hEs1⟩
  rw [ws]
  exact congrArg (fun x => [V.d (.s x), .d (.s S), .d (.i .i64 0), .d (.i .i64 (Ω .ci N)), .own 1050 1, .d (.i .i64 (Ω .ci (i + 1)))]) x2
theorem split_good (l : List Nat) (hl : chs l) (hlen : l.length < 1099511627776) (S : ByteArray) (c : Nat) (hS : byt S = [c]) :
  Good P F.strings_Split [.d (.s (Ψ .str l)), .d (.s S)] [] (.d (.sl (Ψ .strs ((spl c l).map (Ψ .str))))) [] := by
 refine G.strings_Split fun C C2 hC hC2 => ?_
 have g := gensplit_good l hl hlen S c hS
 generalize Ψ .strs ((spl c l).map (Ψ .str)) = R at *
 generalize Ψ .str l = B at *
 exact rs trivial
end Go.K.S
end
section
namespace Go.K
open Go
def digs (l : List Nat) : Prop := ∀ c, c ∈ l → 48 ≤ c ∧ c ≤ 57
theorem digs_chs {l : List Nat} (h : digs l) : chs l := fun c hc => by have := h c hc; omega
theorem digs_take {l : List Nat} (h : digs l) (n : Nat) : digs (l.take n) := fun c hc => h c (List.mem_of_mem_take hc)
theorem digs_drop {l : List Nat} (h : digs l) (n : Nat) : digs (l.drop n) := fun c hc => h c (List.mem_of_mem_drop hc)
theorem numS_app (a b : List Nat) : numS (a ++ b) = numS a * 10 ^ b.length + numS b := by
 have h : ∀ (r : List Nat), numS (a ++ r.reverse) = numS a * 10 ^ r.length + numS r.reverse := fun r => by
  induction r with
  | nil => simp [numS]
  | cons c r ih =>
   rw [List.reverse_cons, ← List.append_assoc, numS_snoc, ih, numS_snoc, List.length_cons, Nat.pow_succ]
   generalize 10 ^ r.length = M
   rw [show numS a * (M * 10) = 10 * (numS a * M) by rw [← Nat.mul_assoc, Nat.mul_comm]]
   omega
 have := h b.reverse
 rwa [List.reverse_reverse, List.length_reverse] at this
theorem numS_lt10 {l : List Nat} (h : digs l) : numS l < 10 ^ l.length := by
 have hh : ∀ (r : List Nat), digs r.reverse → numS r.reverse < 10 ^ r.length := fun r => by
  induction r with
  | nil => intro _; simp [numS]
  | cons c r ih =>
   intro h
   rw [List.reverse_cons] at h ⊢
   have h1 := ih fun x hx => h x (List.mem_append_left _ hx)
   have h2 := h c (by simp)
   rw [numS_snoc, List.length_cons, Nat.pow_succ]
   generalize 10 ^ r.length = M at *
   omega
 have := hh l.reverse (by rwa [List.reverse_reverse])
 rwa [List.reverse_reverse, List.length_reverse] at this
theorem wrapu8 (n : Int) : Ω .wrap .u8 n = n % 256 := by
 simp only [w_wrap, IntKind.wrap, IntKind.bits, IntKind.signed]
 simp
theorem dig_sub {c : Nat} (h : 48 ≤ c ∧ c ≤ 57) : Ω .wrap .u8 (Ω .ci c - 48) = Ω .ci (c - 48) := by rw [wrapu8]; simp only [wz]; omega
end Go.K
namespace Go.K.S
open Go Go.K
theorem number_good (l : List Nat) (hd : digs l) (hlen : l.length < 1000000) : Good P F.decimal_number [.d (.s (Ψ .str l))] [] (.d (dN Ψ (Ψ .cn (numS l)))) [] := by
 refine G.decimal_number fun C C2 hC hC2 => ?_
 have hch := digs_chs hd
 have hst : ∀ i, 9 * i < l.length → numS (l.take (9 * (i + 1))) = numS (l.take (9 * i)) * 10 ^ (min 9 (l.length - 9 * i)) + numS ((l.drop (9 * i)).take (min 9 (l.length - 9 * i))) := fun i hi => by
  have e : l.take (9 * (i + 1)) = l.take (9 * i) ++ (l.drop (9 * i)).take (min 9 (l.length - 9 * i)) := by
   rw [Nat.mul_add, List.take_add]
   refine congrArg _ ?_
   rw [← List.length_drop, Nat.mul_one]
   exact List.take_eq_take_min
  rw [e, numS_app, List.length_take, List.length_drop, Nat.min_eq_left (Nat.min_le_right _ _)]
 have hb : ∀ i, numS (l.take i) < 4294967296 ^ (l.length + 1) := fun i => by
  have h1 := numS_lt (l := l.take i) fun c hc => (hd c (List.mem_of_mem_take hc)).2
  refine Nat.lt_of_lt_of_le h1 (Nat.pow_le_pow_right (by decide) ?_)
  rw [List.length_take]; omega
 obtain ⟨S, hS⟩ : ∃ S : Nat → Nat, ∀ i, S i = numS (l.take (9 * i)) := ⟨_, fun _ => rfl⟩
 have hS0 : S 0 = 0 := by rw [hS]; rfl
 have hSb : ∀ i, S i < 4294967296 ^ (l.length + 1) := fun i => by rw [hS]; exact hb _
 have hSe : ∀ i, l.length ≤ 9 * i → S i = numS l := fun i hi => by rw [hS, List.take_of_length_le hi]
 simp only [← hS] at hst
 obtain ⟨X, hX0, hXs⟩ : ∃ X : Nat → V, X 0 = .nil ∧ ∀ i, X (i + 1) = .d (dN Ψ (Ψ .cn (S (i + 1)))) := ⟨fun i => match i with | 0 => .nil | i + 1 => .d (dN Ψ (Ψ .cn (S (i + 1)))), rfl, fun _ => rfl⟩
 refine rs ?_
 refine LoopG.intro (σ := Nat) [0, 3] [] (fun i => [.d (.s (Ψ .str (l.drop (9 * i)))), X i]) (fun _ => []) (fun i => 9 * i ≤ l.length + 8) (fun i => l.length + 9 - 9 * i) 0 [] (by omega) ⟨rfl, by rw [hX0]; rfl, rfl⟩ ?_
 intro i hi
 have hm : chs (l.drop (9 * i)) := chs_drop hch _
 have hz := bsz_str hm
 rw [List.length_drop] at hz
 rcases Nat.lt_or_ge (9 * i) l.length with hlt | hge
 ·have q0 : Ω .lt 0 (Ω .ci (Ω .bsz (Ψ .str (l.drop (9 * i))))) = true := by rw [hz]; simp only [wz]; omega
  obtain ⟨n, hn⟩ : ∃ n, n = min 9 (l.length - 9 * i) := ⟨_, rfl⟩
  have hn9 : n ≤ 9 ∧ n ≤ l.length - 9 * i ∧ 0 < n := by omega
  have m1 : Ω .imin 9 (Ω .ci (Ω .bsz (Ψ .str (l.drop (9 * i))))) = Ω .ci n := by rw [hz, hn, w_imin]; simp only [wz]; omega
  have hst' := hst i hlt
  rw [← hn] at hst'
  have hdd : digs (l.drop (9 * i)) := digs_drop hd _
  have hx : Ω .bext (Ψ .str (l.drop (9 * i))) n (Ω .bsz (Ψ .str (l.drop (9 * i)))) = Ψ .str (l.drop (9 * (i + 1))) := by
   rw [hz, bext_str hm, List.drop_drop, List.take_of_length_le (by simp; omega)]
   rcases Nat.lt_or_ge (l.length - 9 * i) 9 with h9 | h9
   ·rw [List.drop_of_length_le (by omega), List.drop_of_length_le (by omega)]
   ·rw [show 9 * i + n = 9 * (i + 1) by omega]
  have hle : Ω .ile (Ω .ci n) (Ω .ci (Ω .bsz (Ψ .str (l.drop (9 * i))))) := by rw [hz]; simp only [wz]; omega
  have hg := fun j => bget_str hm j
  have hlen2 : (l.drop (9 * i)).length = l.length - 9 * i := List.length_drop
  have hp : ∀ j, numS ((l.drop (9 * i)).take j) < 10 ^ j := fun j => by
   have h1 := numS_lt10 (digs_take hdd j)
   exact Nat.lt_of_lt_of_le h1 (Nat.pow_le_pow_right (by decide) (by rw [List.length_take]; omega))
  have hps : ∀ j c, (l.drop (9 * i))[j]? = some c → numS ((l.drop (9 * i)).take (j + 1)) = 10 * numS ((l.drop (9 * i)).take j) + (c - 48) := fun j c h => by rw [take_succ_of h, numS_snoc]
  obtain ⟨p, hp'⟩ : ∃ p : Nat → Nat, ∀ j, p j = numS ((l.drop (9 * i)).take j) := ⟨_, fun _ => rfl⟩
  simp only [← hp'] at hp hps hst'
  have hp0 : p 0 = 0 := by rw [hp']; rfl
  generalize Ψ .str (l.drop (9 * i)) = B at *
  generalize l.drop (9 * i) = m at *
  refine rs ?_
  rw [m1]
  have hren : ∀ f, ren f (X i) = X i := fun f => by
   cases i with
   | zero => rw [hX0]; rfl
   | succ i => rw [hXs i]; rfl
  refine LoopG.intro (σ := Nat) [0, 3, 4, 5, 6, 14, 15] [] (fun j => [.d (.s B), X i, .d (.i .i64 (Ω .ci n)), .d (.i .u64 (Ω .ci (p j))), .d (.i .u64 (Ω .ci (10 ^ j))), .d (.i .i64 (Ω .ci n)), .d (.i .i64 (Ω .ci j))]) (fun _ => []) (fun j => j ≤ n) (fun j => n - j) 0 []
   (by omega) ⟨rfl, Eq.trans (b := [.d (.s B), ren (forth [] []) (X i), .d (.i .i64 (Ω .ci n)), .d (.i .u64 0), .d (.i .u64 1), .d (.i .i64 (Ω .ci n)), .d (.i .i64 0)]) rfl (by rw [hren]; simp only [hp0]; rfl), rfl⟩ ?_
  intro j hj
  rcases Nat.eq_or_lt_of_le hj with hj1 | hj1
  ·have q1 : Ω .lt (Ω .ci j) (Ω .ci n) = false := by rw [lt_false]; simp only [wz]; omega
   have hpn := hp j
   subst hj1
   have hpow : 10 ^ j ≤ 1000000000 := Nat.pow_le_pow_right (n := 10) (by decide) hn9.1
   have g1 := of_good (10 ^ j) (by omega)
   have g2 := of_good (p j) (by omega)
   have hc1 : (Ψ .cn (10 ^ j)).length ≤ 1 := len_cn.2 (by omega)
   have hc2 : (Ψ .cn (p j)).length ≤ 1 := len_cn.2 (by omega)
   have hc3 : (Ψ .cn (S i)).length ≤ l.length + 1 := len_cn.2 (hSb i)
   have hmul : S i * 10 ^ j < 4294967296 ^ (l.length + 2) := by
    rw [Nat.pow_succ 4294967296]
    exact Nat.mul_lt_mul_of_lt_of_le' (hSb i) (by omega) (Nat.pow_pos (by decide))
   have g3 := mul_good (Ψ .cn (S i)) (Ψ .cn (10 ^ j)) ⟨lim_cn _, by omega⟩ ⟨lim_cn _, by omega⟩ (by omega) (by omega)
   have hc4 : (Ψ .cn (S i * 10 ^ j)).length ≤ l.length + 2 := len_cn.2 hmul
   have g4 := add_good (Ψ .cn (S i * 10 ^ j)) (Ψ .cn (p j)) ⟨lim_cn _, by omega⟩ ⟨lim_cn _, by omega⟩ (by omega) (by omega)
   rw [nv_cn, nv_cn] at g3 g4
   rw [← hst'] at g4
   have hvs := hXs i
   have hfin : ([.d (.s (Ω .bext B j (Ω .bsz B))), .d (dN Ψ (Ψ .cn (S (i + 1))))] : List V) = [.d (.s (Ψ .str (l.drop (9 * (i + 1))))), X (i + 1)] := by rw [hx, hvs]
   have hN1 : N (Ψ .cn (10 ^ j)) := ⟨lim_cn _, by omega⟩
   have hl1 : (Ψ .cn (10 ^ j)).length < 274877906944 := by omega
   clear hpn hpow hc1 hc2 hc3 hmul hc4 hdd hp hps hp' hg
   generalize 10 ^ j = pw at *
   generalize p j = pj at *
   cases i with
   | zero =>
    rw [hS0, Nat.zero_mul] at g4
    have g3z := mul_good [] (Ψ .cn pw) ⟨lim_nil, by simp⟩ hN1 (by simp) hl1
    rw [nv_cn, nv_nil, Nat.zero_mul] at g3z
    change Good P F.nat_Mul [.d (.sl []), .d (dN Ψ (Ψ .cn pw))] [] (.d (dN Ψ (Ψ .cn 0))) [] at g3z
    rw [hX0]
    refine rs ?_
    exact ⟨0 + 1, [], by omega, by omega, rfl, hfin, rfl⟩
   | succ i =>
    rw [hXs i]
    refine rs ?_
    exact ⟨i + 1 + 1, [], by omega, by omega, rfl, hfin, rfl⟩
  ·have q1 : Ω .lt (Ω .ci j) (Ω .ci n) = true := by rw [lt_true]; simp only [wz]; omega
   obtain ⟨c, hc⟩ : ∃ c, m[j]? = some c := ⟨_, List.getElem?_eq_getElem (by omega)⟩
   have hgc : Ω .bget B j = some c := by rw [hg, hc]
   have hcd := hdd c (List.mem_of_getElem? hc)
   have w1 := dig_sub hcd
   have hpj := hp j
   have hpow : 10 ^ j ≤ 100000000 := Nat.pow_le_pow_right (n := 10) (by decide) (show j ≤ 8 by omega)
   have hpow1 : 10 ^ (j + 1) = 10 ^ j * 10 := Nat.pow_succ ..
   have hpc := hps j c hc
   obtain ⟨pw1, hpw1⟩ : ∃ k, k = 10 ^ (j + 1) := ⟨_, rfl⟩
   obtain ⟨pp, hpp⟩ : ∃ k, k = p (j + 1) := ⟨_, rfl⟩
   rw [← hpw1] at hpow1
   rw [← hpp] at hpc
   have hvs : ([.d (.s B), ren (forth [] []) (X i), .d (.i .i64 (Ω .ci n)), .d (.i .u64 (Ω .ci pp)), .d (.i .u64 (Ω .ci pw1)), .d (.i .i64 (Ω .ci n)), .d (.i .i64 (Ω .ci (j + 1)))] : List V) =
    [.d (.s B), X i, .d (.i .i64 (Ω .ci n)), .d (.i .u64 (Ω .ci (p (j + 1)))), .d (.i .u64 (Ω .ci (10 ^ (j + 1)))), .d (.i .i64 (Ω .ci n)), .d (.i .i64 (Ω .ci (j + 1)))] := by rw [hpp, hpw1, hren]
   generalize 10 ^ j = pw at *
   have w2 : Ω .wrap .u64 (10 * Ω .ci (p j)) = Ω .ci (10 * p j) := by rw [wrapu64]; simp only [wz]; omega
   have w3 : Ω .wrap .u64 (Ω .ci (c - 48)) = Ω .ci (c - 48) := by rw [wrapu64_ci, Nat.mod_eq_of_lt (by omega)]
   have w4 : Ω .wrap .u64 (Ω .ci (10 * p j) + Ω .ci (c - 48)) = Ω .ci pp := by rw [wrapu64, hpc]; simp only [wz]; omega
   have w5 : Ω .wrap .u64 (Ω .ci pw * 10) = Ω .ci pw1 := by rw [wrapu64, hpow1]; simp only [wz]; omega
   have ws := wrap_succ (n := j) (by omega)
   refine rs ?_
   rw [ws, w5, w1, w2, w3, w4]
   exact ⟨j + 1, [], by omega, by omega, rfl, hvs, rfl⟩
 ·have q0 : Ω .lt 0 (Ω .ci (Ω .bsz (Ψ .str (l.drop (9 * i))))) = false := by rw [hz]; simp only [wz]; omega
  have he := hSe i hge
  generalize Ψ .str (l.drop (9 * i)) = B at *
  rw [← he]
  cases i with
  | zero =>
   rw [hS0, hX0]
   have c0 : Ψ .cn 0 = [] := by rw [cn_sm (by omega), if_pos rfl]
   refine rs ?_
   rw [c0]
   rfl
  | succ i =>
   rw [hXs i]
   exact rs trivial
end Go.K.S
end
section
namespace Go.K
open Go
def asV (i : Nat) : List V := (List.range 256).map fun k => V.d (.b (decide (48 ≤ k) && decide (k < 48 + i)))
def asD : List D := (List.range 256).map fun k => .b (isDig k)
def aset : List V := (List.range 256).map fun k => V.d (.b (isDig k))
theorem aset_len : aset.length = 256 := by simp [aset]
theorem aset_at {c : Nat} (h : c < 256) : (aset.drop c).take 1 = [V.d (.b (isDig c))] := by
 refine List.ext_getElem? fun i => ?_
 rw [List.getElem?_take]
 split
 ·rename_i hi
  obtain rfl : i = 0 := by omega
  rw [List.getElem?_drop]
  simp [aset, h]
 ·rename_i hi
  rw [List.getElem?_eq_none (by simp; omega)]
end Go.K
namespace Go.K.S
open Go Go.K
theorem contains_good1 (A : List V) (x : Bool) (c : Nat) (hA : A.length = 256) (hc : c < 256) (he : (A.drop c).take 1 = [V.d (.b x)]) (hr : ∀ f, A.map (ren1 f) = A) :
  Good P F.P_strings_asciiSet_contains [.ptr 0 0, .d (.i .u8 (Ω .ci c))] [.var A none] (.d (.b x)) [.var A none] := by
 refine G.P_strings_asciiSet_contains (hb := by simp) fun C C2 hC hC2 => ?_
 have h1 : (0 : Int) ≤ Ω .ci c := by rw [w_ci]; omega
 have h2 : (Ω .ci c).toNat = c := by rw [w_ci]; rfl
 refine And.intro True.intro (And.intro h1 (And.intro (by show (Ω .ci c).toNat < 256; omega) (And.intro (by show 0 + (Ω .ci c).toNat * 1 + 1 ≤ A.length; omega) (And.intro rfl ?_))))
 dsimp only
 rw [h2, show List.take 1 (List.drop (0 + c * 1) A) = [V.d (.b x)] by rw [Nat.zero_add, Nat.mul_one]; exact he]
 refine And.intro True.intro ⟨[], rfl, rfl, ?_⟩
 show [Blk.var (A.map (ren1 _)) none] = _
 rw [hr]
theorem mkset_good : Good P F.strings_makeASCIISet [.d (.s ⟨#[48, 49, 50, 51, 52, 53, 54, 55, 56, 57]⟩)] [] (.tup [.d (.agg asD), .d (.b true)]) [] := by
 refine G.strings_makeASCIISet fun C C2 hC hC2 => ?_
 refine rs ?_
 refine LoopG.intro (σ := Nat) [0, 2, 3, 4] [1050] (fun i => [.d (.s ⟨#[48, 49, 50, 51, 52, 53, 54, 55, 56, 57]⟩), .ptr 1050 0, .d (.b false), .d (.i .i64 (Ω .ci i))]) (fun i => [.var (asV i) none])
  (fun i => i ≤ 10) (fun i => 10 - i) 0 [1000] (by omega) ⟨rfl, rfl, rfl⟩ ?_
 intro i hi
 rcases Nat.eq_or_lt_of_le hi with rfl | hi1
 ·exact rs trivial
 ·have : i = 0 ∨ i = 1 ∨ i = 2 ∨ i = 3 ∨ i = 4 ∨ i = 5 ∨ i = 6 ∨ i = 7 ∨ i = 8 ∨ i = 9 := by omega
  rcases this with rfl | rfl | rfl | rfl | rfl | rfl | rfl | rfl | rfl | rfl
  ·have hg : Ω .bget ⟨#[48, 49, 50, 51, 52, 53, 54, 55, 56, 57]⟩ 0 = some 48 := rfl
   have q : Ω .le 128 48 = false := rfl
   refine rs ?_
   simp only [show Ω .ci 48 = (48 : Int) from rfl]
   refine rs ?_
   exact ⟨.mk _, of_decide_eq_true (p := _ ≤ 256) rfl, of_decide_eq_true (p := _ ≤ 256) rfl, 1, [1050], by omega, by omega, rfl, rfl, rfl⟩
  ·have hg : Ω .bget ⟨#[48, 49, 50, 51, 52, 53, 54, 55, 56, 57]⟩ 1 = some 49 := rfl
   have q : Ω .le 128 49 = false := rfl
   refine rs ?_
   simp only [show Ω .ci 49 = (49 : Int) from rfl]
   refine rs ?_
   exact ⟨.mk _, of_decide_eq_true (p := _ ≤ 256) rfl, of_decide_eq_true (p := _ ≤ 256) rfl, 2, [1050], by omega, by omega, rfl, rfl, rfl⟩
  ·have hg : Ω .bget ⟨#[48, 49, 50, 51, 52, 53, 54, 55, 56, 57]⟩ 2 = some 50 := rfl
   have q : Ω .le 128 50 = false := rfl
   refine rs ?_
   simp only [show Ω .ci 50 = (50 : Int) from rfl]
   refine rs ?_
   exact ⟨.mk _, of_decide_eq_true (p := _ ≤ 256) rfl, of_decide_eq_true (p := _ ≤ 256) rfl, 3, [1050], by omega, by omega, rfl, rfl, rfl⟩
  ·have hg : Ω .bget ⟨#[48, 49, 50, 51, 52, 53, 54, 55, 56, 57]⟩ 3 = some 51 := rfl
   have q : Ω .le 128 51 = false := rfl
   refine rs ?_
   simp only [show Ω .ci 51 = (51 : Int) from rfl]
   refine rs ?_
   exact ⟨.mk _, of_decide_eq_true (p := _ ≤ 256) rfl, of_decide_eq_true (p := _ ≤ 256) rfl, 4, [1050], by omega, by omega, rfl, rfl, rfl⟩
  ·have hg : Ω .bget ⟨#[48, 49, 50, 51, 52, 53, 54, 55, 56, 57]⟩ 4 = some 52 := rfl
   have q : Ω .le 128 52 = false := rfl
   refine rs ?_
   simp only [show Ω .ci 52 = (52 : Int) from rfl]
   refine rs ?_
   exact ⟨.mk _, of_decide_eq_true (p := _ ≤ 256) rfl, of_decide_eq_true (p := _ ≤ 256) rfl, 5, [1050], by omega, by omega, rfl, rfl, rfl⟩
  ·have hg : Ω .bget ⟨#[48, 49, 50, 51, 52, 53, 54, 55, 56, 57]⟩ 5 = some 53 := rfl
   have q : Ω .le 128 53 = false := rfl
   refine rs ?_
   simp only [show Ω .ci 53 = (53 : Int) from rfl]
   refine rs ?_
   exact ⟨.mk _, of_decide_eq_true (p := _ ≤ 256) rfl, of_decide_eq_true (p := _ ≤ 256) rfl, 6, [1050], by omega, by omega, rfl, rfl, rfl⟩
  ·have hg : Ω .bget ⟨#[48, 49, 50, 51, 52, 53, 54, 55, 56, 57]⟩ 6 = some 54 := rfl
   have q : Ω .le 128 54 = false := rfl
   refine rs ?_
   simp only [show Ω .ci 54 = (54 : Int) from rfl]
   refine rs ?_
   exact ⟨.mk _, of_decide_eq_true (p := _ ≤ 256) rfl, of_decide_eq_true (p := _ ≤ 256) rfl, 7, [1050], by omega, by omega, rfl, rfl, rfl⟩
  ·have hg : Ω .bget ⟨#[48, 49, 50, 51, 52, 53, 54, 55, 56, 57]⟩ 7 = some 55 := rfl
   have q : Ω .le 128 55 = false := rfl
   refine rs ?_
   simp only [show Ω .ci 55 = (55 : Int) from rfl]
   refine rs ?_
   exact ⟨.mk _, of_decide_eq_true (p := _ ≤ 256) rfl, of_decide_eq_true (p := _ ≤ 256) rfl, 8, [1050], by omega, by omega, rfl, rfl, rfl⟩
  ·have hg : Ω .bget ⟨#[48, 49, 50, 51, 52, 53, 54, 55, 56, 57]⟩ 8 = some 56 := rfl
   have q : Ω .le 128 56 = false := rfl
   refine rs ?_
   simp only [show Ω .ci 56 = (56 : Int) from rfl]
   refine rs ?_
   exact ⟨.mk _, of_decide_eq_true (p := _ ≤ 256) rfl, of_decide_eq_true (p := _ ≤ 256) rfl, 9, [1050], by omega, by omega, rfl, rfl, rfl⟩
  ·have hg : Ω .bget ⟨#[48, 49, 50, 51, 52, 53, 54, 55, 56, 57]⟩ 9 = some 57 := rfl
   have q : Ω .le 128 57 = false := rfl
   refine rs ?_
   simp only [show Ω .ci 57 = (57 : Int) from rfl]
   refine rs ?_
   exact ⟨.mk _, of_decide_eq_true (p := _ ≤ 256) rfl, of_decide_eq_true (p := _ ≤ 256) rfl, 10, [1050], by omega, by omega, rfl, rfl, rfl⟩
theorem aset_ren (f : Nat → Option Nat) : aset.map (ren1 f) = aset := by
 unfold aset
 rw [List.map_map]
 rfl
theorem trimA_good (l : List Nat) (hl : chs l) (hlen : l.length < 1099511627776) :
  Good P F.strings_trimLeftASCII [.d (.s (Ψ .str l)), .ptr 0 0] [.var aset none] (.d (.s (Ψ .str (l.dropWhile isDig)))) [.var aset none] := by
 refine G.strings_trimLeftASCII (hb := by simp) fun C C2 hC hC2 => ?_
 have hcon := fun (c : Nat) (hc : c < 256) => contains_good1 aset (isDig c) c aset_len hc (aset_at hc) aset_ren
 refine rs ?_
 refine LoopG.intro (σ := List Nat) [0, 1] [0] (fun m => [.d (.s (Ψ .str m)), .ptr 0 0]) (fun _ => [.var aset none]) (fun m => chs m ∧ m.dropWhile isDig = l.dropWhile isDig ∧ m.length ≤ l.length) (fun m => m.length) l [0] ⟨hl, rfl, Nat.le_refl _⟩ ⟨rfl, rfl, rfl⟩ ?_
 rintro m ⟨hm, htr, hle⟩
 have hsz := bsz_str hm
 rw [← htr]
 cases m with
 | nil =>
  have q0 : Ω .lt 0 (Ω .ci (Ω .bsz (Ψ .str []))) = false := by rw [hsz]; simp only [wz]; simp
  refine rs ?_
  exact ⟨[], rfl, rfl, rfl⟩
 | cons c r =>
  have q0 : Ω .lt 0 (Ω .ci (Ω .bsz (Ψ .str (c :: r)))) = true := by rw [hsz, List.length_cons]; simp only [wz]; omega
  have hg : Ω .bget (Ψ .str (c :: r)) 0 = some c := by rw [bget_str hm]; rfl
  have hr : chs r := fun x hx => hm x (List.mem_cons_of_mem _ hx)
  have hc2 := hcon c (hm c (List.mem_cons_self ..))
  have hx : Ω .bext (Ψ .str (c :: r)) 1 (Ω .bsz (Ψ .str (c :: r))) = Ψ .str r := by rw [bext_str hm, hsz]; simp
  have hle1 : Ω .ile 1 (Ω .ci (Ω .bsz (Ψ .str (c :: r)))) := by rw [hsz, List.length_cons]; simp only [wz]; omega
  cases hd : isDig c with
  | true =>
   rw [hd] at hc2
   have e1 : (c :: r).dropWhile isDig = r.dropWhile isDig := by rw [List.dropWhile_cons, if_pos hd]
   generalize Ψ .str (c :: r) = B at *
   refine rs ?_
   rw [hx]
   exact ⟨r, [0], ⟨hr, e1.symm, by simp at hle; omega⟩, by simp, rfl, rfl, rfl⟩
  | false =>
   rw [hd] at hc2
   rw [show (c :: r).dropWhile isDig = c :: r by rw [List.dropWhile_cons, if_neg (by rw [hd]; decide)]]
   generalize Ψ .str (c :: r) = B at *
   refine rs ?_
   exact ⟨[], rfl, rfl, rfl⟩
theorem trimD_good (l : List Nat) (hl : chs l) (hlen : l.length < 1099511627776) :
  Good P F.strings_TrimLeft [.d (.s (Ψ .str l)), .d (.s ⟨#[48, 49, 50, 51, 52, 53, 54, 55, 56, 57]⟩)] [] (.d (.s (Ψ .str (l.dropWhile isDig)))) [] := by
 refine G.strings_TrimLeft fun C C2 hC hC2 => ?_
 have g0 := trimA_good l hl hlen
 have g1 := mkset_good
 have q1 : Ω .beqs ⟨#[48, 49, 50, 51, 52, 53, 54, 55, 56, 57]⟩ ⟨#[]⟩ = false := by rw [beqs_byt]; rfl
 have hz : Ω .bsz ⟨#[48, 49, 50, 51, 52, 53, 54, 55, 56, 57]⟩ = 10 := rfl
 have q2 : Ω .eq (Ω .ci 10) 1 = false := rfl
 cases l with
 | nil =>
  have q0 : Ω .beqs (Ψ .str []) ⟨#[]⟩ = true := by rw [show (⟨#[]⟩ : ByteArray) = Ψ .str [] from rfl, beqs_str chs_nil chs_nil]; rfl
  rw [show List.dropWhile isDig [] = [] from rfl]
  generalize Ψ .str [] = B at *
  exact rs trivial
 | cons c r =>
  have q0 : Ω .beqs (Ψ .str (c :: r)) ⟨#[]⟩ = false := by
   rw [show (⟨#[]⟩ : ByteArray) = Ψ .str [] from rfl, beqs_str hl chs_nil]; rfl
  generalize Ψ .str (c :: r) = B at *
  generalize Ψ .str ((c :: r).dropWhile isDig) = R at *
  obtain ⟨Z, hZ⟩ : ∃ Z : ByteArray, Z = ⟨#[48, 49, 50, 51, 52, 53, 54, 55, 56, 57]⟩ := ⟨_, rfl⟩
  rw [← hZ] at hz g1 q1 ⊢
  rw [← hz] at q2
  exact rs trivial
theorem digits_good (l : List Nat) (hl : chs l) (hlen : l.length < 1099511627776) : Good P F.decimal_digits [.d (.s (Ψ .str l))] [] (.d (.i .i64 (Ω .ci (digS l)))) [] := by
 refine G.decimal_digits fun C C2 hC hC2 => ?_
 have g := trimD_good l hl hlen
 have hz := bsz_str hl
 have hz2 := bsz_str (l := l.dropWhile isDig) fun c h => hl c ((List.dropWhile_sublist _).subset h)
 have e : digS l + (l.dropWhile isDig).length = l.length := by
  unfold digS
  rw [← List.length_append, List.takeWhile_append_dropWhile]
 have w : Ω .wrap .i64 (Ω .ci (Ω .bsz (Ψ .str l)) - Ω .ci (Ω .bsz (Ψ .str (l.dropWhile isDig)))) = Ω .ci (digS l) := by
  rw [hz, hz2, wrap64 (by simp only [wz]; omega) (by simp only [wz]; omega)]; simp only [wz]; omega
 generalize Ψ .str l = B at *
 generalize Ψ .str (l.dropWhile isDig) = R at *
 generalize digS l = n at *
 refine rs ?_
 rw [w]
theorem fwhole_good (l : List Nat) (hl : digs l) (h9 : l.length ≤ 9) (h0 : l ≠ []) : Good P F.film_whole [.d (.s (Ψ .str l))] [] (.tup [.d (.i .i64 (Ω .ci (numS l))), .d (.b true)]) [] := by
 refine G.film_whole fun C C2 hC hC2 => ?_
 have hch := digs_chs hl
 have hz := bsz_str hch
 have hg := fun j => bget_str hch j
 have hp : ∀ j, j ≤ 9 → numS (l.take j) < 1000000000 := fun j hj => by
  have h1 := numS_lt10 (digs_take hl j)
  exact Nat.lt_of_lt_of_le h1 (show 10 ^ _ ≤ 10 ^ 9 from Nat.pow_le_pow_right (by decide) (by rw [List.length_take]; omega))
 have hps : ∀ j c, l[j]? = some c → numS (l.take (j + 1)) = 10 * numS (l.take j) + (c - 48) := fun j c h => by rw [take_succ_of h, numS_snoc]
 have hpe : numS (l.take l.length) = numS l := by rw [List.take_length]
 rw [← hpe]
 clear hpe
 obtain ⟨p, hp'⟩ : ∃ p : Nat → Nat, ∀ j, p j = numS (l.take j) := ⟨_, fun _ => rfl⟩
 have hp0 : p 0 = 0 := by rw [hp']; rfl
 simp only [← hp'] at hp hps ⊢
 have hln : 0 < l.length := List.length_pos_iff.2 h0
 generalize Ψ .str l = B at *
 refine rs ?_
 refine LoopG.intro (σ := Nat) [0, 4, 7, 8] [] (fun j => [.d (.s B), .d (.i .i64 (Ω .ci (p j))), .d (.i .i64 (Ω .ci (Ω .bsz B))), .d (.i .i64 (Ω .ci j))]) (fun _ => []) (fun j => j ≤ l.length) (fun j => l.length - j) 0 [] (by omega) ⟨rfl, by simp only [hp0]; rfl, rfl⟩ ?_
 intro j hj
 rcases Nat.eq_or_lt_of_le hj with hj1 | hj1
 ·have q1 : Ω .lt (Ω .ci j) (Ω .ci (Ω .bsz B)) = false := by rw [hz, lt_false]; simp only [wz]; omega
  have q2 : Ω .le 1 (Ω .ci (Ω .bsz B)) = true := by rw [hz, le_true]; simp only [wz]; omega
  subst hj1
  exact rs trivial
 ·have q1 : Ω .lt (Ω .ci j) (Ω .ci (Ω .bsz B)) = true := by rw [hz, lt_true]; simp only [wz]; omega
  obtain ⟨c, hc⟩ : ∃ c, l[j]? = some c := ⟨_, List.getElem?_eq_getElem (by omega)⟩
  have hgc : Ω .bget B j = some c := by rw [hg, hc]
  have hcd := hl c (List.mem_of_getElem? hc)
  have q2 : Ω .lt (Ω .ci c) 48 = false := by rw [lt_false]; simp only [wz]; omega
  have q3 : Ω .lt 57 (Ω .ci c) = false := by rw [lt_false]; simp only [wz]; omega
  have w1 := dig_sub hcd
  have hpj := hp j (by omega)
  have hpj1 := hp (j + 1) (by omega)
  have hpc := hps j c hc
  have w2 : Ω .wrap .i64 (10 * Ω .ci (p j)) = Ω .ci (10 * p j) := by rw [wrap64 (by simp only [wz]; omega) (by simp only [wz]; omega)]; simp only [wz]; omega
  have w3 : Ω .wrap .i64 (Ω .ci (c - 48)) = Ω .ci (c - 48) := by rw [wrap64 (by simp only [wz]; omega) (by simp only [wz]; omega)]
  have w4 : Ω .wrap .i64 (Ω .ci (10 * p j) + Ω .ci (c - 48)) = Ω .ci (p (j + 1)) := by rw [hpc]; exact wrap_add (by omega)
  have ws := wrap_succ (n := j) (by omega)
  refine rs ?_
  rw [ws, w1, w2, w3, w4]
  exact ⟨j + 1, [], by omega, by omega, rfl, rfl, rfl⟩
end Go.K.S
end
section
namespace Go.K.S
open Go Go.K
theorem hasPre_good (l : List Nat) (hl : chs l) (S : ByteArray) (c : Nat) (hS : byt S = [c]) : Good P F.internal_stringslite_HasPrefix [.d (.s (Ψ .str l)), .d (.s S)] [] (.d (.b (decide (l.head? = some c)))) [] := by
 refine G.internal_stringslite_HasPrefix fun C C2 hC hC2 => ?_
 have hz : Ω .bsz S = 1 := by rw [bsz_byt, hS]; rfl
 have hsz := bsz_str hl
 cases l with
 | nil =>
  have q : Ω .le (Ω .ci (Ω .bsz S)) (Ω .ci (Ω .bsz (Ψ .str []))) = false := by rw [hz, hsz]; rfl
  rw [show decide ((List.head? ([] : List Nat)) = some c) = false from rfl]
  generalize Ψ .str [] = B at *
  exact rs trivial
 | cons a r =>
  have q : Ω .le (Ω .ci (Ω .bsz S)) (Ω .ci (Ω .bsz (Ψ .str (a :: r)))) = true := by rw [hz, hsz, List.length_cons, le_true]; simp only [wz]; omega
  have hle : Ω .ile (Ω .ci (Ω .bsz S)) (Ω .ci (Ω .bsz (Ψ .str (a :: r)))) := by rw [hz, hsz, List.length_cons]; simp only [wz]; omega
  have q2 : Ω .beqs (Ω .bext (Ψ .str (a :: r)) 0 (Ω .bsz S)) S = decide ((a :: r).head? = some c) := by
   rw [beqs_byt, byt_bext, byt_str hl, hS, hz]
   simp
  generalize decide ((a :: r).head? = some c) = x at *
  generalize Ψ .str (a :: r) = B at *
  cases x with
  | false =>
   refine rs ?_
   exact ⟨hle, rs trivial⟩
  | true =>
   refine rs ?_
   exact ⟨hle, rs trivial⟩
theorem cutPre_good (l : List Nat) (hl : chs l) (S : ByteArray) (c : Nat) (hS : byt S = [c]) :
  Good P F.strings_CutPrefix [.d (.s (Ψ .str l)), .d (.s S)] [] (.tup [.d (.s (Ψ .str (if decide (l.head? = some c) then l.drop 1 else l))), .d (.b (decide (l.head? = some c)))]) [] := by
 refine G.strings_CutPrefix fun C C2 hC hC2 => ?_
 have g : Good P F.internal_stringslite_CutPrefix [.d (.s (Ψ .str l)), .d (.s S)] [] (.tup [.d (.s (Ψ .str (if decide (l.head? = some c) then l.drop 1 else l))), .d (.b (decide (l.head? = some c)))]) [] := by
  refine G.internal_stringslite_CutPrefix fun C C2 hC hC2 => ?_
  have g := hasPre_good l hl S c hS
  have hz : Ω .bsz S = 1 := by rw [bsz_byt, hS]; rfl
  have hsz := bsz_str hl
  cases h : decide (l.head? = some c) with
  | false =>
   rw [h] at g
   simp only [Bool.false_eq_true, if_false]
   generalize Ψ .str l = B at *
   exact rs trivial
  | true =>
   rw [h] at g
   have hl0 : 0 < l.length := by
    cases l with
    | nil => cases of_decide_eq_true h
    | cons a r => simp
   have x : Ω .bext (Ψ .str l) (Ω .bsz S) (Ω .bsz (Ψ .str l)) = Ψ .str (l.drop 1) := by
    rw [hz, hsz, bext_str hl, List.take_of_length_le (by rw [List.length_drop]; omega)]
   have hle : Ω .ile (Ω .ci (Ω .bsz S)) (Ω .ci (Ω .bsz (Ψ .str l))) := by rw [hz, hsz]; simp only [wz]; omega
   simp only [if_true]
   rw [← x]
   generalize Ψ .str l = B at *
   exact rs trivial
 generalize Ψ .str (if decide (l.head? = some c) then l.drop 1 else l) = R at *
 generalize decide (l.head? = some c) = x at *
 generalize Ψ .str l = B at *
 exact rs trivial
theorem dparse_good (l : List Nat) (hl : chs l) {q : Rat} (h : parseS l = some q) (hlen : l.length ≤ 20000) : Good P F.decimal_Parse [.d (.s (Ψ .str l))] [] (.tup [.d (.agg (dR Ψ (Ψ .cr q))), .d (.i .i64 0)]) [] := by
 refine G.decimal_Parse fun C C2 hC hC2 => ?_
 have hz := bsz_str hl
 have q0 : Ω .lt 20000 (Ω .ci (Ω .bsz (Ψ .str l))) = false := by rw [hz]; simp only [wz]; omega
 have g0 := rof_good 0 1 (by omega) (by omega) (by omega) (by omega)
 have gp := cutPre_good l hl ⟨#[45]⟩ 45 rfl
 unfold parseS at h
 generalize decide (l.head? = some 45) = neg at *
 obtain ⟨s, hs⟩ : ∃ s, s = if neg then l.drop 1 else l := ⟨_, rfl⟩
 have hcs : chs s := by rw [hs]; split <;> first | exact chs_drop hl _ | exact hl
 have hsl : s.length ≤ 20000 := by rw [hs]; split <;> (try rw [List.length_drop]) <;> omega
 simp only at h
 rw [← hs] at h gp
 clear hs hz
 have hzs := bsz_str hcs
 have g1 := digits_good s hcs (by omega)
 have hle := digS_le s
 obtain ⟨m, hm1, hm2⟩ : ∃ m, 20001 ≤ m ∧ m ≤ 20002 := ⟨20001, by omega, by omega⟩
 by_cases hn0 : digS s = 0
 ·rw [if_pos hn0] at h; cases h
 rw [if_neg hn0] at h
 have q2 : Ω .eq (Ω .ci (digS s)) 0 = false := by simp only [wz]; omega
 have hdf : digs (s.take (digS s)) := fun c hc => dig_of hc
 have g2 := number_good (s.take (digS s)) hdf (by rw [List.length_take]; omega)
 have hb1 : numS (s.take (digS s)) < 4294967296 ^ m := Nat.lt_of_lt_of_le (numS_lt fun c hc => (dig_of hc).2) (B_mono (by rw [List.length_take]; omega))
 have x1 : Ω .bext (Ψ .str s) 0 (digS s) = Ψ .str (s.take (digS s)) := by rw [bext_str hcs, List.drop_zero, Nat.sub_zero]
 have x2 : Ω .bext (Ψ .str s) (digS s) (Ω .bsz (Ψ .str s)) = Ψ .str (s.drop (digS s)) := by rw [hzs, bext_str hcs, List.take_of_length_le (by rw [List.length_drop]; omega)]
 have i1 : Ω .ile (Ω .ci (digS s)) (Ω .ci (Ω .bsz (Ψ .str s))) := by rw [hzs]; simp only [wz]; omega
 by_cases hn1 : digS s = s.length
 ·rw [if_pos hn1] at h
  cases h
  have b1 : Ω .bnes (Ω .bext (Ψ .str s) (digS s) (Ω .bsz (Ψ .str s))) ⟨#[]⟩ = false := by rw [x2, bnes_byt, hn1, List.drop_length, byt_str chs_nil]; rfl
  have g3 : Good P F.decimal_number [.d (.s ⟨#[49]⟩)] [] (.d (dN Ψ [1])) [] := by
   have := number_good [49] (fun c h => by rw [List.mem_singleton.1 h]; omega) (by simp)
   rw [show numS [49] = 1 from rfl, cn_one] at this
   exact this
  have gr := read_good ⟨neg, Ψ .cn (numS (s.take (digS s))), [1]⟩ (k := m) ⟨lim_cn _, N_one.lim, len_cn.2 hb1, by simp; omega⟩ (by omega)
  rw [rv_mk, nv_cn, show nv [1] = 1 by simp] at gr
  have q3 : Ω .eq (Ω .ci [1].length) 0 = false := rfl
  rw [← x1] at g2
  generalize Ψ .cn (numS (s.take (digS s))) = num at *
  generalize Ψ .cr (mkRat (sg neg (numS (s.take (digS s)))) 1) = Q at *
  generalize digS s = n at *
  generalize Ψ .str s = B' at *
  generalize Ψ .str l = B at *
  exact rs trivial
 ·rw [if_neg hn1] at h
  split at h
  ·rename_i hh
   obtain ⟨y1, y2, y3, y4⟩ := hh
   cases h
   obtain ⟨t, ht⟩ : ∃ t, t = s.drop (digS s + 1) := ⟨_, rfl⟩
   have hct : chs t := by rw [ht]; exact chs_drop hcs _
   have htl : t.length = s.length - (digS s + 1) := by rw [ht, List.length_drop]
   have hdt : digS t = t.length := by rw [htl, ht]; omega
   have hds : digs t := fun c hc => by
    have := dig_of (l := t) (c := c)
    rw [hdt, List.take_length] at this
    exact this hc
   rw [← ht] at y2 y3 y4 ⊢
   obtain ⟨r, hr⟩ : ∃ r, r = s.drop (digS s) := ⟨_, rfl⟩
   have hr0 : r = 47 :: t := by
    obtain ⟨e1, e2⟩ := List.getElem?_eq_some_iff.1 y1
    rw [hr, ht, List.drop_eq_getElem_cons e1, e2]
   rw [← hr, hr0] at x2
   have hcr : chs (47 :: t) := chs_cons (by omega) hct
   have b1 : Ω .bnes (Ω .bext (Ψ .str s) (digS s) (Ω .bsz (Ψ .str s))) ⟨#[]⟩ = true := by rw [x2, bnes_byt, byt_str hcr]; rfl
   have hzr := bsz_str hcr
   rw [List.length_cons] at hzr
   have x3 : Ω .bext (Ψ .str (47 :: t)) 1 (Ω .bsz (Ψ .str (47 :: t))) = Ψ .str t := by rw [hzr, bext_str hcr]; simp
   have i2 : Ω .ile 1 (Ω .ci (Ω .bsz (Ψ .str (47 :: t)))) := by rw [hzr]; simp only [wz]; omega
   have hgr : Ω .bget (Ψ .str (47 :: t)) 0 = some 47 := by rw [bget_str hcr]; rfl
   have hzt := bsz_str hct
   have g3 := digits_good t hct (by omega)
   have g4 := number_good t hds (by omega)
   have hb2 : numS t < 4294967296 ^ m := Nat.lt_of_lt_of_le (numS_lt fun c hc => (hds c hc).2) (B_mono (by omega))
   have gr := read_good ⟨neg, Ψ .cn (numS (s.take (digS s))), Ψ .cn (numS t)⟩ (k := m) ⟨lim_cn _, lim_cn _, len_cn.2 hb1, len_cn.2 hb2⟩ (by omega)
   rw [rv_mk, nv_cn, nv_cn] at gr
   have hcl : Ω .eq (Ω .ci (Ψ .cn (numS t)).length) 0 = false := by
    rw [eq_false']; simp only [wz]
    intro c
    have hnil : Ψ .cn (numS t) = [] := List.length_eq_zero_iff.1 (by omega)
    have := nv_cn (numS t)
    rw [hnil] at this
    exact y4 this.symm
   rw [hdt] at g3
   have q4 : Ω .eq (Ω .ci t.length) 0 = false := by rw [eq_false']; simp only [wz]; omega
   have q5 : Ω .lt (Ω .ci t.length) (Ω .ci (Ω .bsz (Ψ .str t))) = false := by rw [hzt, lt_false]; simp only [wz]; omega
   have q6 : Ω .ne 47 46 = true := rfl
   have q7 : Ω .ne 47 47 = false := rfl
   have q8 : Ω .eq 47 46 = false := rfl
   rw [← x1] at g2
   generalize Ψ .cn (numS (s.take (digS s))) = num at *
   generalize Ψ .cn (numS t) = den at *
   generalize Ψ .cr (mkRat (sg neg (numS (s.take (digS s)))) (numS t)) = Q at *
   generalize t.length = k at *
   generalize digS s = n at *
   generalize Ψ .str s = B' at *
   generalize Ψ .str t = T at *
   generalize Ψ .str (47 :: t) = R at *
   generalize Ψ .str l = B at *
   refine rs ?_
   rw [x2, x3]
   refine ⟨i2, by simp only [wz]; omega, ?_⟩
   exact rs trivial
  ·cases h
end Go.K.S
end
section
namespace Go.K
open Go
theorem numS_decS (n : Nat) : numS (decS n) = n := by
 induction n using Nat.strongRecOn with
 | ind n ih =>
  by_cases h : n < 10
  ·rw [decS_lt h]; simp [numS]
  ·rw [decS_ge h, numS_snoc, ih (n / 10) (by omega)]; omega
theorem digs_decS (n : Nat) : digs (decS n) := decS_isDig n
theorem decS_ne (n : Nat) : decS n ≠ [] := by
 by_cases h : n < 10
 ·rw [decS_lt h]; simp
 ·rw [decS_ge h]; simp
theorem isDig_of {c : Nat} (h : 48 ≤ c ∧ c ≤ 57) : isDig c = true := by unfold isDig; simp [h.1, h.2]
theorem digS_all {l : List Nat} (h : digs l) : digS l = l.length := by
 unfold digS
 have := List.takeWhile_append_of_pos (p := isDig) (l₂ := []) fun c hc => isDig_of (h c hc)
 rw [List.append_nil] at this
 rw [this]; simp
theorem digS_app {l m : List Nat} (h : digs l) {c : Nat} (hc : isDig c = false) : digS (l ++ c :: m) = l.length := by
 unfold digS
 rw [List.takeWhile_append_of_pos fun c hc => isDig_of (h c hc), List.takeWhile_cons, hc]
 simp
theorem parse_prS (q : Rat) : parseS (prS q) = some q := by
 obtain ⟨a, ha⟩ : ∃ a, a = q.num.natAbs := ⟨_, rfl⟩
 obtain ⟨tl, htl⟩ : ∃ tl, tl = (if q.den = 1 then [] else 47 :: decS q.den) := ⟨_, rfl⟩
 have hp : prS q = (if q.num < 0 then [45] else []) ++ (decS a ++ tl) := by rw [prS, ha, htl, List.append_assoc]
 have hhead : (decS a ++ tl).head? ≠ some 45 := by
  cases h : decS a with
  | nil => exact absurd h (decS_ne a)
  | cons c r =>
   have := digs_decS a c (by rw [h]; exact List.mem_cons_self ..)
   simp; omega
 have hneg : decide ((prS q).head? = some 45) = decide (q.num < 0) := by
  rw [hp]
  by_cases h : q.num < 0
  ·rw [if_pos h]; simp [h]
  ·rw [if_neg h, List.nil_append, decide_eq_false hhead, decide_eq_false h]
 have hs : (if decide (q.num < 0) then (prS q).drop 1 else prS q) = decS a ++ tl := by
  rw [hp]
  by_cases h : q.num < 0
  ·rw [if_pos h, decide_eq_true h]; simp
  ·rw [if_neg h, decide_eq_false h]; simp
 have hsg : sg (decide (q.num < 0)) a = q.num := by
  unfold sg
  by_cases h : q.num < 0
  ·rw [decide_eq_true h]; simp; omega
  ·rw [decide_eq_false h]; simp; omega
 have hln : 0 < (decS a).length := List.length_pos_iff.2 (decS_ne a)
 unfold parseS
 simp only [hneg, hs]
 by_cases hd : q.den = 1
 ·rw [if_pos hd] at htl
  subst htl
  rw [List.append_nil, digS_all (digs_decS a), if_neg (by omega), if_pos rfl, List.take_length, numS_decS, hsg]
  have := Rat.mkRat_self q
  rw [hd] at this
  rw [this]
 ·rw [if_neg hd] at htl
  subst htl
  have e1 : (decS a ++ 47 :: decS q.den).drop ((decS a).length + 1) = decS q.den := by
   rw [← List.drop_drop, List.drop_left]; rfl
  have hl2 : 0 < (decS q.den).length := List.length_pos_iff.2 (decS_ne _)
  rw [digS_app (digs_decS a) (by rfl), if_neg (by omega), if_neg (by simp), e1, digS_all (digs_decS _), numS_decS, List.take_left, numS_decS, hsg, if_pos ⟨by simp, by omega, by simp; omega, q.den_nz⟩, Rat.mkRat_self]
def jn (c : Nat) : List (List Nat) → List Nat
 | [] => []
 | [a] => a
 | a :: b :: r => a ++ c :: jn c (b :: r)
theorem jn_end (c : Nat) : ∀ {L : List (List Nat)}, L ≠ [] → L.flatMap (· ++ [c]) = jn c L ++ [c]
 | [], h => absurd rfl h
 | [a], _ => by simp [jn]
 | a :: b :: r, _ => by
  rw [List.flatMap_cons, jn_end c (L := b :: r) (by simp)]
  simp [jn]
theorem spl_jn {c : Nat} : ∀ {L : List (List Nat)}, L ≠ [] → (∀ a, a ∈ L → c ∉ a) → spl c (jn c L) = L
 | [], h, _ => absurd rfl h
 | [a], _, h => spl_none (h a (by simp))
 | a :: b :: r, _, h => by
  show spl c (a ++ c :: jn c (b :: r)) = _
  rw [spl_cons (h a (by simp)), spl_jn (by simp) fun x hx => h x (List.mem_cons_of_mem _ hx)]
theorem not_digs {l : List Nat} (h : digs l) {c : Nat} (hc : c < 48 ∨ 57 < c) : c ∉ l := fun q => by have := h c q; omega
theorem not_prS {q : Rat} {c : Nat} (hc : c < 45 ∨ 57 < c) : c ∉ prS q := fun h => by
 unfold prS at h
 rw [List.mem_append, List.mem_append] at h
 rcases h with (h | h) | h
 ·split at h
  ·rw [List.mem_singleton] at h; omega
  ·exact absurd h List.not_mem_nil
 ·have := decS_isDig _ c h; omega
 ·split at h
  ·exact absurd h List.not_mem_nil
  ·rcases List.mem_cons.1 h with h | h
   ·omega
   ·have := decS_isDig _ c h; omega
def head0 (w h n : Nat) : List Nat := jn 32 [[102, 105, 108, 109], decS w, decS h, decS n]
def line0 (ab : RL × RL) : List Nat := jn 32 [prS (rv ab.1), prS (rv ab.2)]
def textS (w h n : Nat) (A B : List RL) : List Nat := jn 10 (head0 w h n :: (A.zip B).map line0)
theorem spl_head (w h n : Nat) : spl 32 (head0 w h n) = [[102, 105, 108, 109], decS w, decS h, decS n] := spl_jn (by simp) fun a ha => by
 simp only [List.mem_cons, List.not_mem_nil, or_false] at ha
 rcases ha with rfl | rfl | rfl | rfl
 ·decide
 all_goals exact not_digs (digs_decS _) (by omega)
theorem spl_line (ab : RL × RL) : spl 32 (line0 ab) = [prS (rv ab.1), prS (rv ab.2)] := spl_jn (by simp) fun a ha => by
 simp only [List.mem_cons, List.not_mem_nil, or_false] at ha
 rcases ha with rfl | rfl <;> exact not_prS (by omega)
theorem not_head (w h n : Nat) : 10 ∉ head0 w h n := by
 show 10 ∉ [102, 105, 108, 109] ++ 32 :: (decS w ++ 32 :: (decS h ++ 32 :: decS n))
 have h1 := not_digs (digs_decS w) (c := 10) (by omega)
 have h2 := not_digs (digs_decS h) (c := 10) (by omega)
 have h3 := not_digs (digs_decS n) (c := 10) (by omega)
 simp [h1, h2, h3]
theorem not_line (ab : RL × RL) : 10 ∉ line0 ab := by
 show 10 ∉ prS (rv ab.1) ++ 32 :: prS (rv ab.2)
 have h1 := not_prS (q := rv ab.1) (c := 10) (by omega)
 have h2 := not_prS (q := rv ab.2) (c := 10) (by omega)
 simp [h1, h2]
theorem spl_text (w h n : Nat) (A B : List RL) : spl 10 (textS w h n A B) = head0 w h n :: (A.zip B).map line0 := spl_jn (by simp) fun a ha => by
 rcases List.mem_cons.1 ha with rfl | ha
 ·exact not_head w h n
 ·obtain ⟨ab, _, rfl⟩ := List.mem_map.1 ha
  exact not_line ab
theorem dump_text (w h n : Nat) (A B : List RL) : dumpS w h n A B = textS w h n A B ++ [10] := by
 unfold textS
 rw [← jn_end 10 (by simp), List.flatMap_cons, dumpS]
 refine congr (congrArg _ ?_) ?_
 ·unfold headS head0
  simp [jn]
 ·rw [List.flatMap_map]
  refine congrArg (fun f => List.flatMap f (A.zip B)) (funext fun ab => ?_)
  unfold lineS line0
  simp [jn]
theorem chs_text (w h n : Nat) (A B : List RL) : chs (textS w h n A B) := fun c hc => chs_dumpS w h n A B c (by rw [dump_text]; exact List.mem_append_left _ hc)
end Go.K
end
section
namespace Go.K.S
open Go Go.K
theorem hasSuf_good (l : List Nat) (c : Nat) (hl : chs (l ++ [c])) (hlen : l.length < 1099511627776) (S : ByteArray) (hS : byt S = [c]) : Good P F.internal_stringslite_HasSuffix [.d (.s (Ψ .str (l ++ [c]))), .d (.s S)] [] (.d (.b true)) [] := by
 refine G.internal_stringslite_HasSuffix fun C C2 hC hC2 => ?_
 have hz : Ω .bsz S = 1 := by rw [bsz_byt, hS]; rfl
 have hsz := bsz_str hl
 rw [List.length_append, List.length_cons, List.length_nil] at hsz
 have q : Ω .le (Ω .ci (Ω .bsz S)) (Ω .ci (Ω .bsz (Ψ .str (l ++ [c])))) = true := by rw [hz, hsz, le_true]; simp only [wz]; omega
 have w : Ω .wrap .i64 (Ω .ci (Ω .bsz (Ψ .str (l ++ [c]))) - Ω .ci (Ω .bsz S)) = Ω .ci l.length := by
  rw [hz, hsz, wrap64 (by simp only [wz]; omega) (by simp only [wz]; omega)]; simp only [wz]; omega
 have hle : Ω .ile (Ω .ci l.length) (Ω .ci (Ω .bsz (Ψ .str (l ++ [c])))) := by rw [hsz]; simp only [wz]; omega
 have q2 : Ω .beqs (Ω .bext (Ψ .str (l ++ [c])) l.length (Ω .bsz (Ψ .str (l ++ [c])))) S = true := by
  rw [beqs_byt, byt_bext, byt_str hl, hS, hsz, List.drop_left, List.take_of_length_le (by simp)]
  exact decide_eq_true rfl
 generalize l.length = n at *
 generalize Ψ .str (l ++ [c]) = B at *
 refine rs ?_
 rw [w]
 refine ⟨by simp only [wz]; omega, hle, by simp only [wz]; omega, ?_⟩
 exact rs trivial
theorem cutSuf_good (l : List Nat) (c : Nat) (hl : chs (l ++ [c])) (hlen : l.length < 1099511627776) (S : ByteArray) (hS : byt S = [c]) :
  Good P F.strings_CutSuffix [.d (.s (Ψ .str (l ++ [c]))), .d (.s S)] [] (.tup [.d (.s (Ψ .str l)), .d (.b true)]) [] := by
 refine G.strings_CutSuffix fun C C2 hC hC2 => ?_
 have g : Good P F.internal_stringslite_CutSuffix [.d (.s (Ψ .str (l ++ [c]))), .d (.s S)] [] (.tup [.d (.s (Ψ .str l)), .d (.b true)]) [] := by
  refine G.internal_stringslite_CutSuffix fun C C2 hC hC2 => ?_
  have g := hasSuf_good l c hl hlen S hS
  have hz : Ω .bsz S = 1 := by rw [bsz_byt, hS]; rfl
  have hsz := bsz_str hl
  rw [List.length_append, List.length_cons, List.length_nil] at hsz
  have w : Ω .wrap .i64 (Ω .ci (Ω .bsz (Ψ .str (l ++ [c]))) - Ω .ci (Ω .bsz S)) = Ω .ci l.length := by
   rw [hz, hsz, wrap64 (by simp only [wz]; omega) (by simp only [wz]; omega)]; simp only [wz]; omega
  have hle : Ω .ile (Ω .ci l.length) (Ω .ci (Ω .bsz (Ψ .str (l ++ [c])))) := by rw [hsz]; simp only [wz]; omega
  have x : Ω .bext (Ψ .str (l ++ [c])) 0 l.length = Ψ .str l := by rw [bext_str hl, List.drop_zero, Nat.sub_zero, List.take_left]
  rw [← x]
  generalize l.length = n at *
  generalize Ψ .str (l ++ [c]) = B at *
  refine rs ?_
  rw [w]
  refine ⟨by simp only [wz]; omega, hle, ?_⟩
  rfl
 generalize Ψ .str (l ++ [c]) = B at *
 generalize Ψ .str l = R at *
 exact rs trivial
theorem strs_get {L : List (List Nat)} {i : Nat} {x : List Nat} (h : L[i]? = some x) : Ω .sget (Ψ .strs (L.map (Ψ .str))) i = some (.s (Ψ .str x)) := by
 rw [p_strs, w_sget, List.map_map, List.getElem?_map, h]; rfl
theorem strs_len (L : List (List Nat)) : Ω .slen (Ψ .strs (L.map (Ψ .str))) = L.length := by rw [p_strs, w_slen]; simp
theorem strs_sub (L : List (List Nat)) (i j : Nat) : Ω .ssub (Ψ .strs (L.map (Ψ .str))) i j = Ψ .strs (((L.drop i).take j).map (Ψ .str)) := by
 rw [p_strs, p_strs, w_ssub]
 simp [List.map_drop, List.map_take]
theorem strs_cells (L : List (List Nat)) : ∀ x, x ∈ Ψ .strs (L.map (Ψ .str)) → x.cells.length = 1 := fun x h => by
 rw [p_strs, List.mem_map] at h
 obtain ⟨y, _, rfl⟩ := h
 rfl
theorem fhead_good (w h n : Nat) (hw : w < 100) (hh : h < 100) (hn : n < 100) :
  Good P F.film_head [.d (.s (Ψ .str (head0 w h n)))] [] (.tup [.d (.agg [.i .i64 (Ω .ci w), .i .i64 (Ω .ci h), .i .i64 (Ω .ci n)]), .d (.b true)]) [] := by
 refine G.film_head fun C C2 hC hC2 => ?_
 have hd := spl_head w h n
 have hc0 : chs (head0 w h n) := by
  show chs ([102, 105, 108, 109] ++ 32 :: (decS w ++ 32 :: (decS h ++ 32 :: decS n)))
  exact chs_app (chs_lit rfl) (chs_cons (by omega) (chs_app (chs_decS _) (chs_cons (by omega) (chs_app (chs_decS _) (chs_cons (by omega) (chs_decS _))))))
 have hl0 : (head0 w h n).length < 20 := by
  have a1 := decS_small hw; have a2 := decS_small hh; have a3 := decS_small hn
  show ([102, 105, 108, 109] ++ 32 :: (decS w ++ 32 :: (decS h ++ 32 :: decS n))).length < 20
  simp; omega
 have gs := split_good (head0 w h n) hc0 (by omega) ⟨#[32]⟩ 32 rfl
 rw [hd] at gs
 obtain ⟨L, hL⟩ : ∃ L : List (List Nat), L = [[102, 105, 108, 109], decS w, decS h, decS n] := ⟨_, rfl⟩
 obtain ⟨M, hM⟩ : ∃ M : List (List Nat), M = [decS w, decS h, decS n] := ⟨_, rfl⟩
 rw [← hL] at gs
 have l1 := strs_len L
 have l2 := strs_len M
 have x0 : Ω .sget (Ψ .strs (L.map (Ψ .str))) 0 = some (.s (Ψ .str [102, 105, 108, 109])) := strs_get (by rw [hL]; rfl)
 have sb : Ω .ssub (Ψ .strs (L.map (Ψ .str))) 1 3 = Ψ .strs (M.map (Ψ .str)) := by rw [strs_sub, hL, hM]; rfl
 have hce := strs_cells L
 have y0 : Ω .sget (Ψ .strs (M.map (Ψ .str))) 0 = some (.s (Ψ .str (decS w))) := strs_get (by rw [hM]; rfl)
 have y1 : Ω .sget (Ψ .strs (M.map (Ψ .str))) 1 = some (.s (Ψ .str (decS h))) := strs_get (by rw [hM]; rfl)
 have y2 : Ω .sget (Ψ .strs (M.map (Ψ .str))) 2 = some (.s (Ψ .str (decS n))) := strs_get (by rw [hM]; rfl)
 rw [show L.length = 4 by rw [hL]; rfl] at l1
 rw [show M.length = 3 by rw [hM]; rfl] at l2
 have b1 : Ω .bnes (Ψ .str [102, 105, 108, 109]) ⟨#[102, 105, 108, 109]⟩ = false := by rw [bnes_byt, byt_str (chs_lit rfl)]; rfl
 have gw := fun (m : Nat) (hm : m < 100) => fwhole_good (decS m) (digs_decS m) (by have := decS_small hm; omega) (decS_ne m)
 have zw := fun (m : Nat) (hm : m < 100) => (show Ω .le (Ω .ci (Ω .bsz (Ψ .str (decS m)))) 9 = true by rw [bsz_str (chs_decS m), le_true]; have := decS_small hm; simp only [wz]; omega)
 simp only [numS_decS] at gw
 have gw1 := gw w hw
 have gw2 := gw h hh
 have gw3 := gw n hn
 have zw1 := zw w hw
 have zw2 := zw h hh
 have zw3 := zw n hn
 clear gw zw hd hL hM
 generalize Ψ .strs (L.map (Ψ .str)) = XS at *
 generalize Ψ .strs (M.map (Ψ .str)) = YS at *
 generalize Ψ .str (head0 w h n) = B at *
 generalize Ψ .str (decS w) = B1 at *
 generalize Ψ .str (decS h) = B2 at *
 generalize Ψ .str (decS n) = B3 at *
 generalize Ψ .str [102, 105, 108, 109] = B4 at *
 have q1 : Ω .ne (Ω .ci (Ω .slen XS)) 4 = false := by rw [l1]; rfl
 have sb' : Ω .ssub XS 1 (Ω .nsub (Ω .slen XS) 1) = YS := by rw [l1]; exact sb
 refine rs ?_
 refine ⟨by simp, hce, ?_⟩
 refine LoopG.intro (σ := Nat) [2, 4, 23, 24, 25] [1050, 1051] (fun i => [.ptr 1050 0, .ptr 1051 0, .d (.sl YS), .d (.i .i64 (Ω .ci (Ω .slen YS))), .d (.i .i64 (Ω .ci i))])
  (fun i => [.var [.d (.i .i64 0), .d (.i .i64 0), .d (.i .i64 0)] none, .var [.d (.i .i64 (if 0 < i then Ω .ci w else 0)), .d (.i .i64 (if 1 < i then Ω .ci h else 0)), .d (.i .i64 (if 2 < i then Ω .ci n else 0))] none]) (fun i => i ≤ 3) (fun i => 3 - i) 0 [1000, 1100]
  (by omega) ⟨rfl, Eq.trans (b := [.ptr 1050 0, .ptr 1051 0, .d (.sl (Ω .ssub XS 1 (Ω .nsub (Ω .slen XS) 1))), .d (.i .i64 (Ω .ci (Ω .slen (Ω .ssub XS 1 (Ω .nsub (Ω .slen XS) 1))))), .d (.i .i64 0)]) rfl (by rw [sb']; rfl), rfl⟩ ?_
 intro i hi
 have : i = 0 ∨ i = 1 ∨ i = 2 ∨ i = 3 := by omega
 rcases this with rfl | rfl | rfl | rfl
 ·have q2 : Ω .lt 0 (Ω .ci (Ω .slen YS)) = true := by rw [l2]; rfl
  simp only [show Ω .ci 0 = (0 : Int) from rfl]
  refine rs ?_
  exact ⟨1, [1050, 1051], by omega, by omega, rfl, rfl, rfl⟩
 ·have q2 : Ω .lt 1 (Ω .ci (Ω .slen YS)) = true := by rw [l2]; rfl
  simp only [show Ω .ci 1 = (1 : Int) from rfl]
  refine rs ?_
  exact ⟨2, [1050, 1051], by omega, by omega, rfl, rfl, rfl⟩
 ·have q2 : Ω .lt 2 (Ω .ci (Ω .slen YS)) = true := by rw [l2]; rfl
  simp only [show Ω .ci 2 = (2 : Int) from rfl]
  refine rs ?_
  exact ⟨3, [1050, 1051], by omega, by omega, rfl, rfl, rfl⟩
 ·have q2 : Ω .lt 3 (Ω .ci (Ω .slen YS)) = false := by rw [l2]; rfl
  simp only [show Ω .ci 3 = (3 : Int) from rfl]
  exact rs trivial
theorem cr_of {r : RL} (h : canR r = true) : Ψ .cr (rv r) = r := (of_decide_eq_true h).symm
theorem fparse_good (w h n : Nat) (A B : List RL) (hA : ∀ r, r ∈ A → Rn 200 r) (hB : ∀ r, r ∈ B → Rn 200 r) (hok : fok (Ω .ci w) (Ω .ci h) (Ω .ci n) A B = true) :
  Good P F.film_Parse [.d (.s (Ψ .str (dumpS w h n A B)))] [] (.tup [.d (dF Ψ (Ω .ci w) (Ω .ci h) (Ω .ci n) A B), .d (.i .i64 0)]) [] := by
 refine G.film_Parse fun C C2 hC hC2 => ?_
 obtain ⟨⟨w1, w2⟩, ⟨h1, h2⟩, ⟨n1, n2⟩, hla, hlb, hm1, hm2, cA, cB⟩ := fok_parts hok
 have hct := chs_text w h n A B
 have hcd := chs_dumpS w h n A B
 rw [dump_text] at hcd ⊢
 have hlen : (textS w h n A B).length < 1099511627776 := by
  obtain ⟨T, hT0, _, _, hTl, hTe⟩ := dump_ex w h n A B hlb hA hB (by omega) (by omega) (by omega) (by omega)
  have h1 := hTl A.length (Nat.le_refl _)
  rw [hTe, dump_text, List.length_append] at h1
  have : A.length * (40 * 200 + 6) ≤ 2048 * (40 * 200 + 6) := Nat.mul_le_mul_right _ (by omega)
  omega
 have g1 := cutSuf_good (textS w h n A B) 10 hcd hlen ⟨#[10]⟩ rfl
 have g2 := split_good (textS w h n A B) hct hlen ⟨#[10]⟩ 10 rfl
 rw [spl_text] at g2
 have g3 := fhead_good w h n (by omega) (by omega) (by omega)
 have g4 := new1_good (Ω .ci w) (Ω .ci h) (Ω .ci n) A.length (fok_szok hok) (by rw [hla]; simp only [wz]; simp)
 obtain ⟨L, hL⟩ : ∃ L : List (List Nat), L = (A.zip B).map line0 := ⟨_, rfl⟩
 rw [← hL] at g2
 have hLl : L.length = A.length := by rw [hL, List.length_map, List.length_zip]; omega
 have x0 : Ω .sget (Ψ .strs ((head0 w h n :: L).map (Ψ .str))) 0 = some (.s (Ψ .str (head0 w h n))) := strs_get rfl
 have xl := strs_len (head0 w h n :: L)
 have xc := strs_cells (head0 w h n :: L)
 rw [List.length_cons] at xl
 have xs : Ω .ssub (Ψ .strs ((head0 w h n :: L).map (Ψ .str))) 1 A.length = Ψ .strs (L.map (Ψ .str)) := by
  rw [strs_sub, List.drop_succ_cons, List.drop_zero, List.take_of_length_le (by omega)]
 have yl := strs_len L
 have yg : ∀ i a b, A[i]? = some a → B[i]? = some b → Ω .sget (Ψ .strs (L.map (Ψ .str))) i = some (.s (Ψ .str (line0 (a, b)))) := fun i a b ha hb => strs_get (by
  have : (A.zip B)[i]? = some (a, b) := by rw [List.getElem?_zip_eq_some]; exact ⟨ha, hb⟩
  rw [hL, List.getElem?_map, this]; rfl)
 rw [hLl] at xl yl
 have gl : ∀ (a b : RL), Rn 200 a → Rn 200 b → ∃ ls, Good P F.strings_Split [.d (.s (Ψ .str (line0 (a, b)))), .d (.s ⟨#[32]⟩)] [] (.d (.sl ls)) [] ∧ Ω .slen ls = 2 ∧ Ω .sget ls 0 = some (.s (Ψ .str (prS (rv a)))) ∧ Ω .sget ls 1 = some (.s (Ψ .str (prS (rv b)))) := fun a b ha hb => by
  have l1 := prS_len (by omega) (Qn_rv ha (by omega))
  have l2 := prS_len (by omega) (Qn_rv hb (by omega))
  have hc : chs (line0 (a, b)) := chs_app (a := prS (rv a)) (chs_prS _) (chs_cons (by omega) (chs_prS _))
  have hl : (line0 (a, b)).length < 1099511627776 := by
   show (prS (rv a) ++ 32 :: prS (rv b)).length < _
   rw [List.length_append, List.length_cons]; omega
  have g := split_good (line0 (a, b)) hc hl ⟨#[32]⟩ 32 rfl
  rw [spl_line] at g
  exact ⟨_, g, strs_len _, strs_get rfl, strs_get rfl⟩
 have gp : ∀ (a : RL), Rn 200 a → canR a = true → Good P F.decimal_Parse [.d (.s (Ψ .str (prS (rv a))))] [] (.tup [.d (.agg (dR Ψ a)), .d (.i .i64 0)]) [] := fun a ha hc => by
  have := dparse_good (prS (rv a)) (chs_prS _) (parse_prS (rv a)) (by have := prS_len (by omega) (Qn_rv ha (by omega)); omega)
  rw [cr_of hc] at this
  exact this
 have ge : ∀ (a : RL), Ω .beqs (Ψ .str (prS (rv a))) ⟨#[]⟩ = false := fun a => by
  rw [beqs_byt, byt_str (chs_prS _)]
  refine decide_eq_false fun c => ?_
  have := parse_prS (rv a)
  rw [show prS (rv a) = [] from c] at this
  cases this
 obtain ⟨X, hX0, hXs, hXl, hXe⟩ := sset_ex A (fun _ r => r) (fun _ => Ψ .cr 0)
 obtain ⟨Y, hY0, hYs, hYl, hYe⟩ := sset_ex B (fun _ r => r) (fun _ => Ψ .cr 0)
 rw [show A.mapIdx (fun _ r => r) = A from List.mapIdx_eq_iff.2 (by simp)] at hXe
 rw [show B.mapIdx (fun _ r => r) = B from List.mapIdx_eq_iff.2 (by simp)] at hYe
 rw [← zer_map] at hX0 hY0
 rw [hlb] at hY0
 rw [← hX0] at g4
 have g4' : Good P F.film_New [.d (.i .i64 (Ω .ci w)), .d (.i .i64 (Ω .ci h)), .d (.i .i64 (Ω .ci n))] [] (.tup [.agg [.d (.i .i64 (Ω .ci w)), .d (.i .i64 (Ω .ci h)), .d (.i .i64 (Ω .ci n)), .own 0 3, .own 1 3], .d (.b true)])
  [.row true T.api_Rat 3 (X 0), .row true T.api_Rat 3 (Y 0)] := by rw [hY0, ← hX0]; exact g4
 unfold dF
 rw [← hXe, ← hYe]
 have hX0l := hXl 0
 clear g4 hX0 hY0 hXe hYe hcd hct hok hlen
 generalize Ψ .cr 0 = z at *
 generalize Ψ .str (textS w h n A B ++ [10]) = S1 at *
 generalize Ψ .str (textS w h n A B) = S2 at *
 generalize Ψ .str (head0 w h n) = S3 at *
 generalize Ψ .strs ((head0 w h n :: L).map (Ψ .str)) = XS at *
 generalize Ψ .strs (L.map (Ψ .str)) = YS at *
 have q1 : Ω .ne (Ω .wrap .i64 (Ω .ci (Ω .slen XS) - 1)) (Ω .ci (Ω .slen (X 0))) = false := by
  rw [xl, hX0l, wrap64 (by simp only [wz]; omega) (by simp only [wz]; omega), ne_false']; simp only [wz]; omega
 have xs' : Ω .ssub XS 1 (Ω .nsub (Ω .slen XS) 1) = YS := by rw [xl]; exact xs
 refine rs ?_
 refine ⟨by simp, xc, ?_⟩
 refine LoopG.intro (σ := Nat) [2, 9, 62, 63, 64] [1050, 1051, 1052, 1053] (fun i => [.ptr 1050 0, .ptr 1051 0, .d (.sl YS), .d (.i .i64 (Ω .ci (Ω .slen YS))), .d (.i .i64 (Ω .ci i))])
  (fun i => [.var [.d (.i .i64 0), .d (.i .i64 0), .d (.i .i64 0), .nil, .nil] none, .var [.d (.i .i64 (Ω .ci w)), .d (.i .i64 (Ω .ci h)), .d (.i .i64 (Ω .ci n)), .own 1052 3, .own 1053 3] none, .row true T.api_Rat 3 (X i), .row true T.api_Rat 3 (Y i)])
  (fun i => i ≤ A.length) (fun i => A.length - i) 0 [1000, 1610, 1012848, 1012849]
  (by omega) ⟨rfl, Eq.trans (b := [.ptr 1050 0, .ptr 1051 0, .d (.sl (Ω .ssub XS 1 (Ω .nsub (Ω .slen XS) 1))), .d (.i .i64 (Ω .ci (Ω .slen (Ω .ssub XS 1 (Ω .nsub (Ω .slen XS) 1))))), .d (.i .i64 0)]) rfl (by rw [xs']; rfl), rfl⟩ ?_
 intro i hi
 rcases Nat.eq_or_lt_of_le hi with hi1 | hi1
 ·have q0 : Ω .lt (Ω .ci i) (Ω .ci (Ω .slen YS)) = false := by rw [yl, lt_false]; simp only [wz]; omega
  rw [hi1] at q0 ⊢
  rw [hlb]
  exact rs trivial
 ·have q0 : Ω .lt (Ω .ci i) (Ω .ci (Ω .slen YS)) = true := by rw [yl, lt_true]; simp only [wz]; omega
  obtain ⟨a, har⟩ : ∃ r, A[i]? = some r := ⟨_, List.getElem?_eq_getElem hi1⟩
  obtain ⟨b, hbr⟩ : ∃ r, B[i]? = some r := ⟨_, List.getElem?_eq_getElem (by omega)⟩
  have ra := hA a (List.mem_of_getElem? har)
  have rb := hB b (List.mem_of_getElem? hbr)
  have ey := yg i a b har hbr
  obtain ⟨ls, gs, k1, k2, k3⟩ := gl a b ra rb
  have p1 := gp a ra (List.all_eq_true.1 cA a (List.mem_of_getElem? har))
  have p2 := gp b rb (List.all_eq_true.1 cB b (List.mem_of_getElem? hbr))
  have u1 := ge a
  have u2 := ge b
  obtain ⟨e1, e2⟩ := hXs i a har
  obtain ⟨e3, e4⟩ := hYs i b hbr
  have l1 := hXl i
  have l2 := hYl i
  have q2 : Ω .ne (Ω .ci (Ω .slen ls)) 2 = false := by rw [k1]; rfl
  have i1 : Ω .ilt (Ω .ci i) (Ω .ci (Ω .slen (X i))) := by rw [l1]; simp only [wz]; omega
  have i2 : Ω .ilt (Ω .ci i) (Ω .ci (Ω .slen (Y i))) := by rw [l2]; simp only [wz]; omega
  have ws := wrap_succ (n := i) (by omega)
  have e2' : Ω .sset (X i) i (D.agg [D.b a.neg, D.sl (Ψ .lims a.num), D.sl (Ψ .lims a.den)]) = X (i + 1) := e2
  have e4' : Ω .sset (Y i) i (D.agg [D.b b.neg, D.sl (Ψ .lims b.num), D.sl (Ψ .lims b.den)]) = Y (i + 1) := e4
  generalize Ψ .str (line0 (a, b)) = S4 at *
  generalize Ψ .str (prS (rv a)) = S5 at *
  generalize Ψ .str (prS (rv b)) = S6 at *
  refine rs ?_
  rw [e2', e4', ws]
  exact ⟨i + 1, [1050, 1051, 1052, 1053], by omega, by omega, rfl, rfl, rfl⟩
end Go.K.S
end
section
namespace Go.K.S
open Go Go.K
theorem filmBack_num (W H n : Int) (A B : List RL) {k : Nat} (hA : ∀ r, r ∈ A → Rn k r) (hB : ∀ r, r ∈ B → Rn k r) (hk0 : 0 < k) (hk : k < 4000000) (hla : A.length < 9223372036854775808) (hlb : B.length < 9223372036854775808) :
  Good P F.penumbralaw20_FilmBack [.d (dF Ψ W H n A B)] [] (.d (.b true)) [] := by
 refine G.penumbralaw20_FilmBack fun C C2 hC hC2 => ?_
 have gl := long20_good W H n A B hla hlb
 have gf := fixed20_good
 cases hf : fok W H n A B with
 | false =>
  have g1 := dump0_good W H n A B hA hB hk0 (by omega) hla hlb hf
  have g2 := fcheck_good W H n A B hA hB hk0 (by omega) hla hlb
  rw [hf] at g2
  exact rs trivial
 | true =>
  have hs := szok_iff.1 (fok_szok hf)
  obtain ⟨w, hw⟩ : ∃ w : Nat, W = Ω .ci w := ⟨W.toNat, by rw [w_ci]; omega⟩
  obtain ⟨h, hh⟩ : ∃ w : Nat, H = Ω .ci w := ⟨H.toNat, by rw [w_ci]; omega⟩
  obtain ⟨m, hm⟩ : ∃ w : Nat, n = Ω .ci w := ⟨n.toNat, by rw [w_ci]; omega⟩
  rw [hw, hh, hm] at hf gl
  rw [hw, hh, hm]
  have g1 := dump1_good w h m A B hA hB hk0 hk hf
  cases hl : (A.any lng || B.any lng) with
  | true =>
   rw [hl] at gl
   generalize Ψ .str (dumpS w h m A B) = S1 at *
   clear hf hs hw hh hm
   exact rs trivial
  | false =>
   rw [hl] at gl
   rw [Bool.or_eq_false_iff] at hl
   have hA2 := any_lng hA hl.1
   have hB2 := any_lng hB hl.2
   have g2 := fparse_good w h m A B hA2 hB2 hf
   have g3 := is20_good (Ω .ci w) (Ω .ci h) (Ω .ci m) A B hA hB (by omega) hla hlb
   generalize Ψ .str (dumpS w h m A B) = S1 at *
   clear hf hs hw hh hm hA2 hB2
   exact rs trivial
theorem filmBack_good (x : FL) (h : Fln 1048576 x) : Good P F.penumbralaw20_FilmBack [.d (.agg (dFl Ψ x))] [] (.d (.b true)) [] :=
 filmBack_num x.W x.H x.n x.A x.B h.A.2 h.B.2 (by omega) (by omega) (by have := h.A.1; omega) (by have := h.B.1; omega)
end Go.K.S
end
