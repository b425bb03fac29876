/-
  Parts of the proof, joined by a program of this work: KBvhS, KBvh1, KBvh2, KBvhP, KAuto3, KBvh3, KBvhQ, KBvh4, KBvh5, KTrace5, KLawTraceTrees.
-/
import Derived.Test.YtbemciakckdjlaaLk
section
/-
  The tree of boxes that is built: what is reckoned, in plain Lean.
-/
namespace Go.K
open Go
set_option linter.unusedVariables false
/-- the box of a triangle -/
def bxT (t : TL) : BL := Ψ .cB (bjoins ([t.a, t.b, t.c].map pbox))
def axI (v : VL) (i : Int) : RL := if i = 0 then v.x else if i = 1 then v.y else v.z
/-- stands i ahead of k? -/
def aheadS (m : Nat → VL) (al : Int) (i k : Nat) : Bool :=
  decide (rv (axI (m i) al) < rv (axI (m k) al)) || (decide (rv (axI (m i) al) = rv (axI (m k) al)) && decide (i < k))
def extS (b : BL) (i : Int) : Rat := rv (axI b.hi i) - rv (axI b.lo i)
def widS (b : BL) : Int :=
  if extS b (if extS b 0 < extS b 1 then 1 else 0) < extS b 2 then 2 else if extS b 0 < extS b 1 then 1 else 0
/-- quickselect -/
def partS (lt : Nat → Nat → Bool) : Nat → List Nat → Nat → List Nat
  | 0, l, _ => l
  | f + 1, l, n =>
    if 1 < l.length then
      let p := l.getD (l.length / 2) 0
      let low := l.filter fun i => lt i p
      let high := l.filter fun i => !lt i p && decide (i ≠ p)
      if n < low.length then partS lt f low n ++ p :: high
      else if n = low.length then low ++ p :: high
      else low ++ p :: partS lt f high (n - (low.length + 1))
    else l
/-- a builder's cells -/
def bcell (Ψ : (t : Sd) → STy t) (n o a : V) (TD : List D) : List V := [n, o, V.d (.sl TD), a]
theorem axI_n {k : Nat} {v : VL} (h : Vn k v) (i : Int) : Rn k (axI v i) := by
  unfold axI; split
  · exact h.x
  · split
    · exact h.y
    · exact h.z
end Go.K
end
section
/-
  Contracts: a tree of boxes is built: around, axis, ahead, widest.
-/
namespace Go.K.S
open Go Go.K
set_option maxHeartbeats 8000000
set_option maxRecDepth 20000
set_option linter.unusedVariables false
set_option linter.unusedSimpArgs false
theorem taround_good (t : TL) {k : Nat} (ht : Tn k t) (hk : 0 < k) (hk2 : k < 68719476736) :
    Good P F.bvh_around [.d (.agg (dT Ψ t))] [] (.d (.agg (dB Ψ (bxT t)))) [] := by
  refine G.bvh_around fun C C2 hC hC2 => ?_
  have g := around_good [t.a, t.b, t.c] (k := k) (fun b hb => by
    simp only [List.mem_cons, List.not_mem_nil, or_false] at hb
    rcases hb with rfl | rfl | rfl
    · exact ht.a
    · exact ht.b
    · exact ht.c) (by simp) hk hk2
  have e : Ψ .dVs [t.a, t.b, t.c] = [.agg (dV Ψ t.a), .agg (dV Ψ t.b), .agg (dV Ψ t.c)] := rfl
  rw [e] at g
  have e2 : bxT t = Ψ .cB (bjoins ([t.a, t.b, t.c].map pbox)) := rfl
  rw [← e2] at g
  generalize bxT t = R at *
  exact rn trivial
theorem axis_good (v : VL) (i : Int) : Good P F.bvh_axis [.d (.agg (dV Ψ v)), .d (.i .i64 i)] [] (.d (.agg (dR Ψ (axI v i)))) [] := by
  refine G.bvh_axis fun C C2 hC hC2 => ?_
  by_cases h0 : i = 0
  · subst h0
    have e : axI v 0 = v.x := rfl
    rw [e]
    exact rn trivial
  · have q0 := eq_false'.2 h0
    by_cases h1 : i = 1
    · subst h1
      have e : axI v 1 = v.y := rfl
      rw [e]
      exact rn trivial
    · have q1 := eq_false'.2 h1
      have e : axI v i = v.z := by unfold axI; rw [if_neg h0, if_neg h1]
      rw [e]
      exact rn trivial
theorem sget_lt {xs : List D} {k : Nat} {x : D} (h : Ω .sget xs k = some x) : k < Ω .slen xs := by
  rw [w_sget] at h
  exact (List.getElem?_eq_some_iff.1 h).1
theorem ahead_good {ND OD TD AT : List D} (m : Nat → VL) (i k : Nat) (al : Int) {j : Nat} (hi : Ω .sget AT i = some (.agg (dV Ψ (m i)))) (hk : Ω .sget AT k = some (.agg (dV Ψ (m k)))) (hm : ∀ i, Vn j (m i)) (hj : j < 68719476736) :
    Good P F.P_bvh_builder_ahead [.ptr 0 0, .d (.i .i64 (Ω .ci i)), .d (.i .i64 (Ω .ci k)), .d (.i .i64 al)] [.var (bcell Ψ (.own 1 22) (.own 2 1) (.own 3 9) TD), .row true T.api_Node 22 ND, .row true T.int 1 OD, .row true T.api_Vec 9 AT]
      (.d (.b (aheadS m al i k))) [.var (bcell Ψ (.own 1 22) (.own 2 1) (.own 3 9) TD), .row true T.api_Node 22 ND, .row true T.int 1 OD, .row true T.api_Vec 9 AT] := by
  refine G.P_bvh_builder_ahead (hb := of_decide_eq_true rfl) fun C C2 hC hC2 => ?_
  have g1 := axis_good (m i) al
  have g2 := axis_good (m k) al
  have g3 := rcmp_good (axI (m i) al) (axI (m k) al) (axI_n (hm i) al) (axI_n (hm k) al) hj hj
  have z1 := @cI_neg (rv (axI (m i) al)) (rv (axI (m k) al))
  have z2 := @cI_zero (rv (axI (m i) al)) (rv (axI (m k) al))
  unfold aheadS
  have l1 := sget_lt hi
  have l2 := sget_lt hk
  generalize rv (axI (m i) al) = x at *
  generalize rv (axI (m k) al) = y at *
  generalize axI (m i) al = ai at *
  generalize axI (m k) al = ak at *
  generalize Ψ .cI x y = c at *
  generalize m i = mi at *
  generalize m k = mk at *
  by_cases h1 : x < y
  · rw [decide_eq_true h1, Bool.true_or]
    have q1 := lt_true.2 (z1.2 h1)
    have q2 : c ≠ 0 := by have := z1.2 h1; omega
    refine rk ?_
    exact ⟨[], rfl, rfl, rfl⟩
  · rw [decide_eq_false h1, Bool.false_or]
    have q1 := lt_false.2 (Int.not_lt.1 (mt z1.1 h1))
    by_cases h2 : x = y
    · rw [decide_eq_true h2, Bool.true_and]
      have q2 := eq_true'.2 (z2.2 h2)
      by_cases h3 : i < k
      · rw [decide_eq_true h3]
        have q3 : Ω .lt (Ω .ci i) (Ω .ci k) = true := by simp only [wz]; omega
        refine rk ?_
        exact ⟨[], rfl, rfl, rfl⟩
      · rw [decide_eq_false h3]
        have q3 : Ω .lt (Ω .ci i) (Ω .ci k) = false := by simp only [wz]; omega
        refine rk ?_
        exact ⟨[], rfl, rfl, rfl⟩
    · rw [decide_eq_false h2, Bool.false_and]
      have q2 := eq_false'.2 (mt z2.1 h2)
      refine rk ?_
      exact ⟨[], rfl, rfl, rfl⟩
end Go.K.S
end
section
/-
  Contracts: a tree of boxes is built: widest.
-/
namespace Go.K
open Go
/-- the box of some middles -/
def bxM (m : Nat → VL) (l : List Nat) : BL := Ψ .cB (bjoins ((l.map m).map pbox))
/-- what a builder's lists hold -/
structure BuildH (order : List Nat) (m : Nat → VL) (OD AT : List D) : Prop where
  o : ∀ (j i : Nat), order[j]? = some i → Ω .sget OD j = some (.i .i64 (Ω .ci i))
  ol : Ω .slen OD = order.length
  a : ∀ (i : Nat), i ∈ order → Ω .sget AT i = some (.agg (dV Ψ (m i)))
  os : order.length < 100000
end Go.K
namespace Go.K.S
open Go Go.K
set_option maxHeartbeats 8000000
set_option maxRecDepth 20000
set_option linter.unusedVariables false
set_option linter.unusedSimpArgs false
theorem widest_good {order : List Nat} {m : Nat → VL} {ND OD TD AT : List D} (H : BuildH order m OD AT) (f c : Nat) {k : Nat} (hfc : f + c ≤ order.length) (hc0 : 0 < c) (hm : ∀ i, Vn k (m i)) (hk : 0 < k) (hk2 : k < 134217728) :
    Good P F.P_bvh_builder_widest [.ptr 0 0, .d (.i .i64 (Ω .ci f)), .d (.i .i64 (Ω .ci c))] [.var (bcell Ψ (.own 1 22) (.own 2 1) (.own 3 9) TD), .row true T.api_Node 22 ND, .row true T.int 1 OD, .row true T.api_Vec 9 AT]
      (.d (.i .i64 (widS (bxM m ((order.drop f).take c))))) [.var (bcell Ψ (.own 1 22) (.own 2 1) (.own 3 9) TD), .row true T.api_Node 22 ND, .row true T.int 1 OD, .row true T.api_Vec 9 AT] := by
  refine G.P_bvh_builder_widest (hb := of_decide_eq_true rfl) fun C C2 hC hC2 => ?_
  have hos := H.os
  have ga := around_good (((order.drop f).take c).map m) (k := k) (fun b hb => by
    obtain ⟨i, _, rfl⟩ := List.mem_map.1 hb
    exact hm i) (by rw [List.length_map, List.length_take, List.length_drop]; omega) hk (by omega)
  have eB : Ψ .cB (bjoins ((((order.drop f).take c).map m).map pbox)) = bxM m ((order.drop f).take c) := rfl
  rw [eB] at ga
  have hB : Bn k (bxM m ((order.drop f).take c)) := Bn_cB (Bq_joins hk _ (fun b hb => by
    obtain ⟨v, hv, rfl⟩ := List.mem_map.1 hb
    obtain ⟨i, _, rfl⟩ := List.mem_map.1 hv
    exact ⟨hm i, hm i⟩))
  generalize bxM m ((order.drop f).take c) = B at *
  have hst : ∀ j i, j < c → order[f + j]? = some i → ((order.drop f).take (j + 1)).map m = ((order.drop f).take j).map m ++ [m i] := fun j i hj hi => by
    rw [take_succ_of (l := order.drop f) (i := j) (x := i) (by rw [List.getElem?_drop]; exact hi)]; simp
  have hz : ((order.drop f).take 0).map m = [] := rfl
  have hlen : ∀ j, j ≤ c → (((order.drop f).take j).map m).length = j := fun j hj => by simp; omega
  obtain ⟨S, hS⟩ : ∃ S : Nat → List VL, S = fun j => ((order.drop f).take j).map m := ⟨_, rfl⟩
  have hSe : ∀ j, ((order.drop f).take j).map m = S j := fun j => by rw [hS]
  simp only [hSe] at hst hz hlen ga
  clear hSe hS
  have hw : Ω .wrap .i64 (Ω .ci f + Ω .ci c) = Ω .ci (f + c) := by rw [wrap_add (by omega)]
  have hol := H.ol
  refine rk ?_
  rw [hw]
  refine rk ?_
  refine ⟨ci_nonneg _, (by simp only [wz]; omega), (by simp only [wz]; omega), (by simp only [wz]; omega), ?_⟩
  refine rk ?_
  refine ⟨(fun h => nomatch h), ?_⟩
  have e1 : Ω .nsub (f + c) f = c := by simp only [wz]; omega
  rw [e1]
  refine LoopG.intro2 (σ := Nat) [0, 7, 22, 23, 24] (fun i => match i with | 0 => [0, 1, 2, 3] | _ + 1 => [0, 1, 2, 3, 1050])
      (fun i => [.ptr 0 0, match i with | 0 => .nil | _ + 1 => .own 1050 9, .ref 2 1 f c, .d (.i .i64 (Ω .ci c)), .d (.i .i64 (Ω .ci i))])
      (fun i => .var (bcell Ψ (.own 1 22) (.own 2 1) (.own 3 9) TD) :: .row true T.api_Node 22 ND :: .row true T.int 1 OD :: .row true T.api_Vec 9 AT :: match i with | 0 => [] | i + 1 => [.row true T.api_Vec 9 (Ψ .dVs (S (i + 1)))])
      (fun i => i ≤ c)
      (fun i => c - i) 0 [0, 1, 2, 3] (Nat.zero_le _) ⟨rfl, rfl, rfl⟩ ?_
  have hel : ∀ j, j < c → ∃ i, order[f + j]? = some i ∧ Ω .sget OD (Ω .nadd f j) = some (.i .i64 (Ω .ci i)) ∧ Ω .sget AT i = some (.agg (dV Ψ (m i))) ∧ i < Ω .slen AT := fun j hj => by
    obtain ⟨i, hi⟩ : ∃ i, order[f + j]? = some i := ⟨_, List.getElem?_eq_getElem (by omega)⟩
    have ha := H.a i (List.mem_of_getElem? hi)
    exact ⟨i, hi, H.o _ _ hi, ha, sget_lt ha⟩
  rintro (_ | j) hj
  · obtain ⟨i, hi, h1, h2, h3⟩ := hel 0 hc0
    have e := hst 0 i hc0 hi
    rw [hz] at e
    have hq : Ω .lt 0 (Ω .ci c) = true := by simp only [wz]; omega
    refine rk ?_
    refine ⟨1, [0, 1, 2, 3, 1509], hc0, by omega, rfl, ?_, ?_⟩
    · refine Eq.trans (b := [.ptr 0 0, .own 1050 9, .ref 2 1 f c, .d (.i .i64 (Ω .ci c)), .d (.i .i64 _)]) rfl ?_
      rw [wrap_succ (by omega)]
    · simp only
      rw [e]
      rfl
  · have hsl := hlen (j + 1) hj
    rcases Nat.lt_or_ge (j + 1) c with hlt | hge
    · obtain ⟨i, hi, h1, h2, h3⟩ := hel (j + 1) hlt
      have e := hst (j + 1) i hlt hi
      have hq : Ω .lt (Ω .ci (j + 1)) (Ω .ci c) = true := by simp only [wz]; omega
      refine rk ?_
      refine ⟨j + 1 + 1, [0, 1, 2, 3, 1509], hlt, by omega, rfl, ?_, ?_⟩
      · refine Eq.trans (b := [.ptr 0 0, .own 1050 9, .ref 2 1 f c, .d (.i .i64 (Ω .ci c)), .d (.i .i64 _)]) rfl ?_
        rw [wrap_succ (by omega)]
      · simp only
        rw [e, ← scat_dVs]
        rfl
    · have hl0 : j + 1 = c := by omega
      have hq : Ω .lt (Ω .ci (j + 1)) (Ω .ci c) = false := by simp only [wz]; omega
      rw [← hl0] at ga
      obtain ⟨lo, hi⟩ := B
      obtain ⟨bs, b1, b2, b3⟩ : ∃ bs : Nat → Int, bs 1 = 0 ∧ (∀ x, 0 < x → x < 3 → bs (x + 1) = if extS ⟨lo, hi⟩ (bs x) < extS ⟨lo, hi⟩ (il x) then il x else bs x) ∧ bs 3 = widS ⟨lo, hi⟩ := by
        refine ⟨fun x => match x with | 0 => 0 | 1 => 0 | 2 => if extS ⟨lo, hi⟩ 0 < extS ⟨lo, hi⟩ 1 then 1 else 0 | _ => widS ⟨lo, hi⟩, rfl, fun x h1 h2 => ?_, rfl⟩
        obtain rfl | rfl : x = 1 ∨ x = 2 := by omega
        · rfl
        · rfl
      rw [← b3]
      refine rk ?_
      refine LoopG.intro (σ := Nat) [10, 11, 12] [0, 1, 2, 3, 1050]
        (fun x => [.ptr 1050 0, .d (.i .i64 (bs x)), .d (.i .i64 (il x))])
        (fun x => [.var (bcell Ψ (.own 1 22) (.own 2 1) (.own 3 9) TD), .row true T.api_Node 22 ND, .row true T.int 1 OD, .row true T.api_Vec 9 AT, .var ((dB Ψ ⟨lo, hi⟩).map V.d)])
        (fun x => 0 < x ∧ x ≤ 3)
        (fun x => 3 - x) 1 [0, 1, 2, 3, 1702] ⟨by omega, by omega⟩ ⟨rfl, (by show _ = [V.ptr 1050 0, .d (.i .i64 (bs 1)), .d (.i .i64 (il 1))]; rw [b1]; rfl), rfl⟩ ?_
      rintro x ⟨hx1, hx3⟩
      rcases Nat.lt_or_ge x 3 with hlt | hge
      · have q1 : Ω .lt (il x) 3 = true := by
          obtain rfl | rfl : x = 1 ∨ x = 2 := by omega
          · decide
          · decide
        have q2 : Ω .wrap .i64 (il x + 1) = il (x + 1) := by
          obtain rfl | rfl : x = 1 ∨ x = 2 := by omega
          · decide
          · decide
        have hs := b2 x hx1 hlt
        have ga1 := axis_good hi (il x)
        have ga2 := axis_good lo (il x)
        have ga3 := axis_good hi (bs x)
        have ga4 := axis_good lo (bs x)
        have n1 := axI_n hB.hi (il x)
        have n2 := axI_n hB.lo (il x)
        have n3 := axI_n hB.hi (bs x)
        have n4 := axI_n hB.lo (bs x)
        have gs1 := rsub_good _ _ n1 n2 hk hk (by omega) (by omega)
        have gs2 := rsub_good _ _ n3 n4 hk hk (by omega) (by omega)
        have gc := rcmp_good (Ψ .cr (rv (axI hi (il x)) - rv (axI lo (il x)))) (Ψ .cr (rv (axI hi (bs x)) - rv (axI lo (bs x)))) (Rn_cr.2 (Qn_sub (Qn_rv n1 hk) (Qn_rv n2 hk))) (Rn_cr.2 (Qn_sub (Qn_rv n3 hk) (Qn_rv n4 hk))) (by omega) (by omega)
        rw [rv_cr, rv_cr] at gc
        have z := @cI_pos (rv (axI hi (il x)) - rv (axI lo (il x))) (rv (axI hi (bs x)) - rv (axI lo (bs x)))
        have ez1 : extS ⟨lo, hi⟩ (il x) = rv (axI hi (il x)) - rv (axI lo (il x)) := rfl
        have ez2 : extS ⟨lo, hi⟩ (bs x) = rv (axI hi (bs x)) - rv (axI lo (bs x)) := rfl
        rw [← ez1, ← ez2] at z gc
        rw [← ez1] at gs1
        rw [← ez2] at gs2
        generalize extS ⟨lo, hi⟩ (il x) = u at *
        generalize extS ⟨lo, hi⟩ (bs x) = v at *
        generalize Ψ .cI u v = ci at *
        generalize axI hi (il x) = a1 at *
        generalize axI lo (il x) = a2 at *
        generalize axI hi (bs x) = a3 at *
        generalize axI lo (bs x) = a4 at *
        generalize Ψ .cr u = U at *
        generalize Ψ .cr v = W at *
        generalize hxi : il x = xi at *
        generalize hbx : bs x = bx at *
        by_cases h : v < u
        · rw [if_pos h] at hs
          have q3 := lt_true.2 (z.2 h)
          refine rk ?_
          refine ⟨x + 1, [0, 1, 2, 3, 1050], ⟨by omega, hlt⟩, by omega, rfl, ?_, rfl⟩
          rw [hs, ← q2]
          rfl
        · rw [if_neg h] at hs
          have q3 := lt_false.2 (Int.not_lt.1 (mt z.1 h))
          refine rk ?_
          refine ⟨x + 1, [0, 1, 2, 3, 1050], ⟨by omega, hlt⟩, by omega, rfl, ?_, rfl⟩
          rw [hs, ← q2]
          rfl
      · obtain rfl : x = 3 := by omega
        generalize bs 3 = bx at *
        refine rk ?_
        exact ⟨[], rfl, rfl, rfl⟩
end Go.K.S
end
section
/-
  Quickselect, in plain Lean: what stands where, and that it is a permutation.
-/
namespace Go.K
open Go
set_option linter.unusedVariables false
def lowS (lt : Nat → Nat → Bool) (p : Nat) (l : List Nat) : List Nat := l.filter fun i => lt i p
def highS (lt : Nat → Nat → Bool) (p : Nat) (l : List Nat) : List Nat := l.filter fun i => !lt i p && decide (i ≠ p)
theorem split_perm {lt : Nat → Nat → Bool} {p : Nat} {l : List Nat} (hn : l.Nodup) (hp : p ∈ l) (hi : lt p p = false) : (lowS lt p l ++ p :: highS lt p l).Perm l := by
  have h1 : (l.filter (fun i => lt i p) ++ l.filter (fun i => !lt i p)).Perm l := List.filter_append_perm _ l
  have hM : (l.filter fun i => !lt i p).Nodup := hn.filter _
  have hpM : p ∈ l.filter fun i => !lt i p := List.mem_filter.2 ⟨hp, by simp [hi]⟩
  have h2 : highS lt p l = (l.filter fun i => !lt i p).erase p := by
    rw [hM.erase_eq_filter]
    unfold highS
    rw [List.filter_filter]
    congr 1
    funext i
    rw [Bool.and_comm]
    congr 1
    by_cases c : i = p <;> simp [c]
  have h3 : (p :: highS lt p l).Perm (l.filter fun i => !lt i p) := by
    rw [h2]; exact (List.perm_cons_erase hpM).symm
  exact (h3.append_left _).trans h1
theorem split_len {lt : Nat → Nat → Bool} {p : Nat} {l : List Nat} (hn : l.Nodup) (hp : p ∈ l) (hi : lt p p = false) : (lowS lt p l).length + 1 + (highS lt p l).length = l.length := by
  have := (split_perm hn hp hi).length_eq
  simp only [List.length_append, List.length_cons] at this
  omega
theorem partS_small {lt : Nat → Nat → Bool} {f : Nat} {l : List Nat} {n : Nat} (h : l.length ≤ 1) : partS lt f l n = l := by
  cases f with
  | zero => rfl
  | succ f => unfold partS; rw [if_neg (by omega)]
theorem partS_step {lt : Nat → Nat → Bool} {f : Nat} {l : List Nat} {n p : Nat} (h : 1 < l.length) (hp : l[l.length / 2]? = some p) :
    partS lt (f + 1) l n = if n < (lowS lt p l).length then partS lt f (lowS lt p l) n ++ p :: highS lt p l
      else if n = (lowS lt p l).length then lowS lt p l ++ p :: highS lt p l else lowS lt p l ++ p :: partS lt f (highS lt p l) (n - ((lowS lt p l).length + 1)) := by
  have e : l.getD (l.length / 2) 0 = p := by simp [List.getD, hp]
  rw [partS, if_pos h, e]
  rfl
theorem partS_perm {lt : Nat → Nat → Bool} (hi : ∀ p, lt p p = false) : ∀ (f : Nat) (l : List Nat) (n : Nat), l.Nodup → (partS lt f l n).Perm l
  | 0, l, n, _ => .refl _
  | f + 1, l, n, hn => by
    by_cases h : 1 < l.length
    · obtain ⟨p, hp⟩ : ∃ p, l[l.length / 2]? = some p := ⟨_, List.getElem?_eq_getElem (by omega)⟩
      rw [partS_step h hp]
      have hs := split_perm (lt := lt) hn (List.mem_of_getElem? hp) (hi p)
      have h1 := partS_perm hi f (lowS lt p l) n (hn.filter _)
      have h2 := partS_perm hi f (highS lt p l) (n - ((lowS lt p l).length + 1)) (hn.filter _)
      split
      · exact (h1.append_right _).trans hs
      · split
        · exact hs
        · exact ((h2.cons p).append_left _).trans hs
    · rw [partS_small (by omega)]
/-- what stands after the two copies -/
theorem part_write {A low high : List Nat} {off len p : Nat} (h : off + len ≤ A.length) (hl : low.length + 1 + high.length = len) {A1 A2 : List Nat}
    (h1 : A1 = A.take off ++ low ++ A.drop (off + low.length)) (h2 : A2 = A1.set (off + low.length) p) :
    A2.take (off + (low.length + 1)) ++ high ++ A2.drop (off + (low.length + 1) + high.length) = A.take off ++ (low ++ p :: high) ++ A.drop (off + len) := by
  have l0 : (A.take off).length = off := by rw [List.length_take]; omega
  have e2 : A2 = (A.take off ++ low) ++ p :: A.drop (off + low.length + 1) := by
    rw [h2, h1]
    obtain ⟨q, r, hq⟩ : ∃ q r, A.drop (off + low.length) = q :: r := by
      cases hd : A.drop (off + low.length) with
      | nil => have := congrArg List.length hd; rw [List.length_drop, List.length_nil] at this; omega
      | cons q r => exact ⟨q, r, rfl⟩
    have hr : A.drop (off + low.length + 1) = r := by
      rw [← List.drop_drop, hq]; rfl
    rw [hq, hr, List.set_append_right _ _ (by rw [List.length_append, l0]; exact Nat.le_refl _)]
    rw [List.length_append, l0, Nat.sub_self]; rfl
  have l1 : ((A.take off ++ low) ++ [p]).length = off + (low.length + 1) := by simp only [List.length_append, l0, List.length_singleton]; omega
  have e3 : A2 = ((A.take off ++ low) ++ [p]) ++ A.drop (off + low.length + 1) := by rw [e2]; simp
  rw [e3, List.take_left' l1]
  rw [← List.drop_drop, List.drop_left' l1, List.drop_drop]
  simp only [List.append_assoc, List.cons_append, List.nil_append]
  rw [show off + low.length + 1 + high.length = off + len by omega]
end Go.K
end
section
/-
  The same, calls that write no block too: a reckoning that passes calls, elements and questions by what is at hand.
-/
namespace Go.K
set_option linter.unusedVariables false
/-- a reckoning goes on; calls by contracts that are at hand, elements that are at hand, and questions that are known, are passed -/
theorem rq {P Q : Prop} (q : Q) (h : Hid Q → P := by
  intro q; (generalize hΩ : Ω = ω, hΨ : Ψ = ψ; cbv <;> subst hΩ hΨ <;> try simp only [lits, true_and, Int.reduceAdd, Int.reduceSub, Int.reduceMul, not_u32, slen_nil, tn_ci, tn_zero, slen_lims, slen_dRs, slen_dVs, slen_dBs])
  (repeat (
    first
      | refine ⟨_, hC _ _ _ (by assumption), ?_⟩
      | refine ⟨_, _, hC2 _ _ _ _ _ (by assumption), ?_⟩
      | refine ⟨_, hC2 _ _ _ _ _ (by assumption), rfl, rfl, ?_⟩
      | refine ⟨ci_nonneg _, _, (by assumption), rfl, ?_⟩
      | refine ⟨_, (by assumption), rfl, ?_⟩
      | refine ⟨ci_nonneg _, (by simp only [wz, slen_scat]; omega), _, (by assumption), (by first | exact Nat.le_refl _ | (simp; done)), rfl, ?_⟩
      | refine ⟨(by first | exact fun u h => by rw [List.mem_singleton.1 h]; rfl | exact cells_dRs _ | assumption), (by simp only [wz, slen_scat]; omega), ?_⟩
      | refine BrG.yes (by first | assumption | decide) ?_
      | refine BrG.no (by first | assumption | decide) ?_
    (generalize hΩ : Ω = ω, hΨ : Ψ = ψ; cbv <;> subst hΩ hΨ <;> try simp only [lits, true_and, Int.reduceAdd, Int.reduceSub, Int.reduceMul, not_u32, slen_nil, tn_ci, tn_zero, slen_lims, slen_dRs, slen_dVs, slen_dBs])))
  all_goals with_reducible exact q.out) : P := h ⟨q⟩
end Go.K
end
section
/-
  Contracts: a tree of boxes is built: part (quickselect).
-/
namespace Go.K
open Go
set_option linter.unusedVariables false
/-- whole numbers, as data -/
def oD (l : List Nat) : List D := l.map fun i => .i .i64 (Ω .ci i)
structure OF (O : List Nat → List D) : Prop where
  get : ∀ (A : List Nat) (j i : Nat), A[j]? = some i → Ω .sget (O A) j = some (.i .i64 (Ω .ci i))
  len : ∀ A, Ω .slen (O A) = A.length
  cat : ∀ A i, Ω .scat (O A) [.i .i64 (Ω .ci i)] = O (A ++ [i])
  cpy : ∀ A l off len, l.length ≤ len → Ω .scpy (O A) off (Ω .ssub (O l) 0 len) = O (A.take off ++ l ++ A.drop (off + l.length))
  set : ∀ A k i, Ω .sset (O A) k (.i .i64 (Ω .ci i)) = O (A.set k i)
  nil : O [] = []
  one : ∀ A u, u ∈ O A → u.cells.length = 1
theorem oD_ok : OF oD where
  get := fun A j i h => by simp [oD, w_sget, h]
  len := fun A => by simp [oD, w_slen]
  cat := fun A i => by simp [oD, w_scat]
  cpy := fun A l off len h => by
    have e : (oD l).take len = oD l := List.take_of_length_le (by simp [oD]; exact h)
    simp only [w_scpy, w_ssub, List.drop_zero, e]
    simp [oD]
  set := fun A k i => by simp [oD, w_sset, List.map_set]
  nil := rfl
  one := fun A u h => by
    obtain ⟨i, _, rfl⟩ := List.mem_map.1 h
    rfl
/-- quickselect's state -/
structure PS where
  off : Nat
  len : Nat
  n : Nat
  A : List Nat
end Go.K
namespace Go.K.S
open Go Go.K
set_option maxHeartbeats 8000000
set_option maxRecDepth 20000
set_option linter.unusedVariables false
set_option linter.unusedSimpArgs false
theorem part_good {order : List Nat} {m : Nat → VL} {ND TD AT : List D} (hA : ∀ i, i ∈ order → Ω .sget AT i = some (.agg (dV Ψ (m i)))) (hos : order.length < 100000) (hnd : order.Nodup) (off len n : Nat) (al : Int) {k : Nat}
    (hfc : off + len ≤ order.length) (hn : n < len) (hm : ∀ i, Vn k (m i)) (hk : 0 < k) (hk2 : k < 134217728) :
    Good P F.P_bvh_builder_part [.ptr 0 0, .ref 2 1 off len, .d (.i .i64 (Ω .ci n)), .d (.i .i64 al)] [.var (bcell Ψ (.own 1 22) (.own 2 1) (.own 3 9) TD), .row true T.api_Node 22 ND, .row true T.int 1 (oD order), .row true T.api_Vec 9 AT]
      (.tup []) [.var (bcell Ψ (.own 1 22) (.own 2 1) (.own 3 9) TD), .row true T.api_Node 22 ND, .row true T.int 1 (oD (order.take off ++ partS (aheadS m al) len ((order.drop off).take len) n ++ order.drop (off + len))), .row true T.api_Vec 9 AT] := by
  refine G.P_bvh_builder_part (hb := of_decide_eq_true rfl) fun C C2 hC hC2 => ?_
  obtain ⟨R, hR⟩ : ∃ R, R = order.take off ++ partS (aheadS m al) len ((order.drop off).take len) n ++ order.drop (off + len) := ⟨_, rfl⟩
  rw [← hR]
  obtain ⟨lt, hlt⟩ : ∃ lt, lt = aheadS m al := ⟨_, rfl⟩
  have hirr : ∀ p, lt p p = false := fun p => by rw [hlt]; unfold aheadS; simp
  have gah : ∀ (O : List D) (i p : Nat), i ∈ order → p ∈ order → Good P F.P_bvh_builder_ahead [.ptr 0 0, .d (.i .i64 (Ω .ci i)), .d (.i .i64 (Ω .ci p)), .d (.i .i64 al)] [.var (bcell Ψ (.own 1 22) (.own 2 1) (.own 3 9) TD), .row true T.api_Node 22 ND, .row true T.int 1 O, .row true T.api_Vec 9 AT]
      (.d (.b (lt i p))) [.var (bcell Ψ (.own 1 22) (.own 2 1) (.own 3 9) TD), .row true T.api_Node 22 ND, .row true T.int 1 O, .row true T.api_Vec 9 AT] := fun O i p hi hp => by
    rw [hlt]; exact ahead_good m i p al (hA i hi) (hA p hp) hm (by omega)
  rw [← hlt] at hR
  clear hlt
  have hoF := oD_ok
  generalize oD = O at *
  refine rq ?_
  refine LoopG.intro (σ := PS) [0, 1, 2, 3] [0, 1, 2, 3]
    (fun x => [.ptr 0 0, .ref 2 1 x.off x.len, .d (.i .i64 (Ω .ci x.n)), .d (.i .i64 al)])
    (fun x => [.var (bcell Ψ (.own 1 22) (.own 2 1) (.own 3 9) TD), .row true T.api_Node 22 ND, .row true T.int 1 (O x.A), .row true T.api_Vec 9 AT])
    (fun x => x.off + x.len ≤ x.A.length ∧ x.A.length = order.length ∧ x.n < x.len ∧ x.A.Nodup ∧ (∀ i, i ∈ x.A → i ∈ order) ∧ ∃ f, x.len ≤ f ∧ x.A.take x.off ++ partS lt f ((x.A.drop x.off).take x.len) x.n ++ x.A.drop (x.off + x.len) = R)
    (fun x => x.len) ⟨off, len, n, order⟩ [0, 1, 2, 3] ⟨hfc, rfl, hn, hnd, fun _ h => h, len, Nat.le_refl _, hR.symm⟩ ⟨rfl, rfl, rfl⟩ ?_
  rintro ⟨off, len, n, A⟩ ⟨hfc, hAl, hn, hnd, hAo, f, hf, hR⟩
  simp only at hfc hAl hn hnd hAo hf hR
  have hsl : ((A.drop off).take len).length = len := by rw [List.length_take, List.length_drop]; omega
  rcases Nat.lt_or_ge 1 len with h1 | h1
  rotate_left
  · -- the end
    rw [partS_small (by omega)] at hR
    have e : A.take off ++ (A.drop off).take len ++ A.drop (off + len) = A := by
      rw [List.append_assoc, ← List.drop_drop, List.take_append_drop, List.take_append_drop]
    rw [e] at hR
    subst hR
    have hq : Ω .lt 1 (Ω .ci len) = false := by simp only [wz]; omega
    refine rq ?_
    exact ⟨[], rfl, rfl, rfl⟩
  have hq : Ω .lt 1 (Ω .ci len) = true := by simp only [wz]; omega
  obtain ⟨p, hp⟩ : ∃ p, A[off + len / 2]? = some p := ⟨_, List.getElem?_eq_getElem (by omega)⟩
  have hp' : ((A.drop off).take len)[((A.drop off).take len).length / 2]? = some p := by
    rw [hsl, List.getElem?_take, if_pos (by omega), List.getElem?_drop]; exact hp
  have hpA : p ∈ (A.drop off).take len := List.mem_of_getElem? hp'
  have hpo := hAo p (List.mem_of_getElem? hp)
  have hseg : ((A.drop off).take len).Nodup := (hnd.sublist (List.drop_sublist _ _)).sublist (List.take_sublist _ _)
  have hsp := split_len (lt := lt) hseg hpA (hirr p)
  rw [hsl] at hsp
  have hspp := split_perm (lt := lt) hseg hpA (hirr p)
  have hel : ∀ j, j < len → ∃ i, A[off + j]? = some i ∧ ((A.drop off).take len)[j]? = some i ∧ i ∈ order ∧ Ω .sget (O A) (Ω .nadd off j) = some (.i .i64 (Ω .ci i)) := fun j hj => by
    obtain ⟨i, hi⟩ : ∃ i, A[off + j]? = some i := ⟨_, List.getElem?_eq_getElem (by omega)⟩
    exact ⟨i, hi, by rw [List.getElem?_take, if_pos hj, List.getElem?_drop]; exact hi, hAo i (List.mem_of_getElem? hi), hoF.get _ _ _ hi⟩
  have hz : ∀ l : List Nat, lowS lt p (l.take 0) = [] ∧ highS lt p (l.take 0) = [] := fun l => ⟨rfl, rfl⟩
  have hst : ∀ j i, ((A.drop off).take len)[j]? = some i → lowS lt p (((A.drop off).take len).take (j + 1)) = lowS lt p (((A.drop off).take len).take j) ++ (if lt i p then [i] else []) ∧
      highS lt p (((A.drop off).take len).take (j + 1)) = highS lt p (((A.drop off).take len).take j) ++ (if !lt i p && decide (i ≠ p) then [i] else []) := fun j i hi => by
    rw [take_succ_of hi]
    unfold lowS highS
    rw [List.filter_append, List.filter_append]
    refine ⟨?_, ?_⟩
    · congr 1; by_cases c : lt i p = true <;> simp [c]
    · congr 1; by_cases c : (!lt i p && decide (i ≠ p)) = true
      · rw [if_pos c, List.filter_cons_of_pos (by exact c), List.filter_nil]
      · rw [if_neg c, List.filter_cons_of_neg (by exact c), List.filter_nil]
  have hend : ((A.drop off).take len).take len = (A.drop off).take len := List.take_of_length_le (by omega)
  have hle : ∀ j, (lowS lt p (((A.drop off).take len).take j)).length ≤ len ∧ (highS lt p (((A.drop off).take len).take j)).length ≤ len := fun j => by
    have a1 : (lowS lt p (((A.drop off).take len).take j)).length ≤ (((A.drop off).take len).take j).length := List.length_filter_le ..
    have a2 : (highS lt p (((A.drop off).take len).take j)).length ≤ (((A.drop off).take len).take j).length := List.length_filter_le ..
    rw [List.length_take, hsl] at a1 a2
    omega
  -- names for the two lists
  obtain ⟨LO, hLO⟩ : ∃ LO : Nat → List Nat, LO = fun j => lowS lt p (((A.drop off).take len).take j) := ⟨_, rfl⟩
  obtain ⟨HI, hHI⟩ : ∃ HI : Nat → List Nat, HI = fun j => highS lt p (((A.drop off).take len).take j) := ⟨_, rfl⟩
  have eLO : ∀ j, lowS lt p (((A.drop off).take len).take j) = LO j := fun j => by rw [hLO]
  have eHI : ∀ j, highS lt p (((A.drop off).take len).take j) = HI j := fun j => by rw [hHI]
  simp only [eLO, eHI] at hst hle
  have z1 : LO 0 = [] := by rw [hLO]; rfl
  have z2 : HI 0 = [] := by rw [hHI]; rfl
  have w1 : LO len = lowS lt p ((A.drop off).take len) := by rw [← eLO, hend]
  have w2 : HI len = highS lt p ((A.drop off).take len) := by rw [← eHI, hend]
  rw [← w1, ← w2] at hsp hspp
  obtain ⟨f, rfl⟩ : ∃ g, f = g + 1 := ⟨f - 1, by omega⟩
  rw [partS_step (by omega) hp', ← w1, ← w2] at hR
  clear eLO eHI hLO hHI w1 w2 hz hend
  have hdiv : Ω .wrap .i64 ((Ω .ci len).tdiv 2) = Ω .ci (len / 2) := by
    have e : (Ω .ci len).tdiv 2 = Ω .ci (len / 2) := (Int.ofNat_tdiv len 2).symm
    rw [e]
    exact wrap_ci (by omega)
  have hpg : Ω .sget (O A) (Ω .nadd off (len / 2)) = some (.i .i64 (Ω .ci p)) := hoF.get _ _ _ hp
  refine rq ?_
  rw [hdiv]
  refine rq ?_
  refine LoopG.introB (σ := Nat) [.slot 9 900001 T.int 1, .slot 10 900002 T.int 1] [0, 1, 2, 3, 8, 9, 10, 22, 23, 24] [0, 1, 2, 3, 1050, 1051]
    (fun j => [.ptr 0 0, .ref 2 1 off len, .d (.i .i64 (Ω .ci n)), .d (.i .i64 al), .d (.i .i64 (Ω .ci p)), .own 1050 1, .own 1051 1, .ref 2 1 off len, .d (.i .i64 (Ω .ci len)), .d (.i .i64 (Ω .ci j))])
    (fun j => [.var (bcell Ψ (.own 1 22) (.own 2 1) (.own 3 9) TD), .row true T.api_Node 22 ND, .row true T.int 1 (O A), .row true T.api_Vec 9 AT, .row true T.int 1 (O (LO j)), .row true T.int 1 (O (HI j))])
    (fun j => j ≤ len)
    (fun j => len - j) 0 [0, 1, 2, 3, 900001, 900002] (Nat.zero_le _) ⟨rfl, rfl, (by rw [z1, z2, hoF.nil]; rfl)⟩ ?_
  intro j hj
  rcases Nat.lt_or_ge j len with hlt | hge
  · obtain ⟨i, hi, hi', hio, hg⟩ := hel j hlt
    have hq2 : Ω .lt (Ω .ci j) (Ω .ci len) = true := by simp only [wz]; omega
    have ga := gah (O A) i p hio hpo
    obtain ⟨s1, s2⟩ := hst j i hi'
    have hl := hle j
    have k1 := hoF.len (LO j)
    have k2 := hoF.len (HI j)
    by_cases c1 : lt i p = true
    · rw [c1] at ga s1 s2
      rw [if_pos rfl] at s1
      have t1 := hoF.cat (LO j) i
      rw [← s1] at t1
      rw [if_neg (by simp), List.append_nil] at s2
      refine rq ?_
      refine ⟨j + 1, [0, 1, 2, 3, 1703, 1051], hlt, by omega, rfl, ?_, ?_⟩
      · refine Eq.trans (b := [.ptr 0 0, .ref 2 1 off len, .d (.i .i64 (Ω .ci n)), .d (.i .i64 al), .d (.i .i64 (Ω .ci p)), .own 1050 1, .own 1051 1, .ref 2 1 off len, .d (.i .i64 (Ω .ci len)), .d (.i .i64 _)]) rfl ?_
        rw [wrap_succ (by omega)]
      · rw [← t1, s2]
        rfl
    · have c1' : lt i p = false := by simpa using c1
      rw [c1'] at ga s1 s2
      rw [if_neg (by decide), List.append_nil] at s1
      by_cases c2 : i = p
      · subst c2
        rw [if_neg (by simp), List.append_nil] at s2
        have q3 : Ω .ne (Ω .ci i) (Ω .ci i) = false := ne_false'.2 rfl
        refine rq ?_
        refine ⟨j + 1, [0, 1, 2, 3, 1050, 1051], hlt, by omega, rfl, ?_, ?_⟩
        · refine Eq.trans (b := [.ptr 0 0, .ref 2 1 off len, .d (.i .i64 (Ω .ci n)), .d (.i .i64 al), .d (.i .i64 (Ω .ci i)), .own 1050 1, .own 1051 1, .ref 2 1 off len, .d (.i .i64 (Ω .ci len)), .d (.i .i64 _)]) rfl ?_
          rw [wrap_succ (by omega)]
        · rw [s1, s2]
          rfl
      · rw [if_pos (by simp [c2])] at s2
        have t2 := hoF.cat (HI j) i
        rw [← s2] at t2
        have q3 : Ω .ne (Ω .ci i) (Ω .ci p) = true := ne_true'.2 (fun q => c2 (Int.ofNat.inj q))
        refine rq ?_
        refine ⟨j + 1, [0, 1, 2, 3, 1050, 1903], hlt, by omega, rfl, ?_, ?_⟩
        · refine Eq.trans (b := [.ptr 0 0, .ref 2 1 off len, .d (.i .i64 (Ω .ci n)), .d (.i .i64 al), .d (.i .i64 (Ω .ci p)), .own 1050 1, .own 1051 1, .ref 2 1 off len, .d (.i .i64 (Ω .ci len)), .d (.i .i64 _)]) rfl ?_
          rw [wrap_succ (by omega)]
        · rw [← t2, s1]
          rfl
  · obtain rfl : j = len := by omega
    have hq2 : Ω .lt (Ω .ci j) (Ω .ci j) = false := by simp only [wz]; omega
    have hl := hle j
    generalize LO j = low at *
    generalize HI j = high at *
    have k1 := hoF.len low
    have k2 := hoF.len high
    have hw : Ω .wrap .i64 (Ω .ci low.length + 1) = Ω .ci (low.length + 1) := wrap_succ (by omega)
    have e1 := hoF.cpy A low off j hl.1
    obtain ⟨A1, hA1⟩ : ∃ A1, A1 = A.take off ++ low ++ A.drop (off + low.length) := ⟨_, rfl⟩
    obtain ⟨A2, hA2⟩ : ∃ A2, A2 = A1.set (off + low.length) p := ⟨_, rfl⟩
    obtain ⟨A3, hA3⟩ : ∃ A3, A3 = A.take off ++ (low ++ p :: high) ++ A.drop (off + j) := ⟨_, rfl⟩
    have l1 : A1.length = A.length := by rw [hA1]; simp only [List.length_append, List.length_take, List.length_drop]; omega
    have l2 : A2.length = A.length := by rw [hA2, List.length_set, l1]
    have e2 : Ω .sset (O A1) (Ω .nadd off low.length) (.i .i64 (Ω .ci p)) = O A2 := by rw [hoF.set, hA2]; rfl
    have e3 : Ω .scpy (O A2) (Ω .nadd off (low.length + 1)) (Ω .ssub (O high) 0 (Ω .nsub j (low.length + 1))) = O A3 := by
      rw [hoF.cpy _ _ _ _ (by simp only [wz]; omega), hA3]
      exact congrArg O (part_write hfc hsp hA1 hA2)
    rw [← hA1] at e1
    have o2 := hoF.len A1
    have o3 := hoF.len A2
    rw [l1] at o2
    rw [l2] at o3
    refine rq ?_
    rw [k1, hw, tn_ci, e1, e2, e3, k2, o2, o3]
    refine ⟨hoF.one low, (by simp only [w_leb, w_nadd, hoF.len, decide_eq_true_eq]; omega), ci_nonneg _, (by simp only [wz]; omega), (by simp only [wz]; omega), ci_nonneg _, (by simp only [wz]; omega),
      (by simp only [wz]; omega), (by simp only [wz]; omega), (fun h => nomatch h), hoF.one high, (by simp only [w_leb, w_nadd, w_nsub, decide_eq_true_eq]; omega), ?_⟩
    -- where it goes on
    have A3l : A3.length = A.length := by rw [hA3]; simp only [List.length_append, List.length_cons, List.length_take, List.length_drop]; omega
    have A3p : A3.Perm A := by
      rw [hA3]
      have e : A.take off ++ (A.drop off).take j ++ A.drop (off + j) = A := by
        rw [List.append_assoc, ← List.drop_drop, List.take_append_drop, List.take_append_drop]
      exact ((hspp.append_left _).append_right _).trans (.of_eq e)
    have A3n := A3p.nodup_iff.2 hnd
    have A3o : ∀ i, i ∈ A3 → i ∈ order := fun i hi => hAo i (A3p.mem_iff.1 hi)
    have x0 : (A.take off).length = off := by rw [List.length_take]; omega
    rcases Nat.lt_trichotomy n low.length with c | c | c
    · rw [if_pos c] at hR
      have q1 : Ω .lt (Ω .ci n) (Ω .ci low.length) = true := by simp only [wz]; omega
      have y1 : A3.take off = A.take off := by rw [hA3, List.append_assoc, List.take_left' x0]
      have y2 : (A3.drop off).take low.length = low := by rw [hA3, List.append_assoc, List.drop_left' x0, List.append_assoc, List.take_left' rfl]
      have y3 : A3.drop (off + low.length) = p :: high ++ A.drop (off + j) := by
        rw [← List.drop_drop, hA3, List.append_assoc, List.drop_left' x0, List.append_assoc, List.drop_left' rfl]
      refine rq ?_
      rw [k1]
      refine ⟨ci_nonneg _, (by simp only [wz]; omega), (by simp only [wz]; omega), (fun h => nomatch h), ⟨off, low.length, n, A3⟩, [0, 1, 2, 3], ⟨?_, ?_, c, A3n, A3o, f, ?_, ?_⟩, (by show low.length < j; omega), rfl, rfl, rfl⟩
      · show off + low.length ≤ A3.length
        omega
      · show A3.length = order.length
        omega
      · show low.length ≤ f
        omega
      · show A3.take off ++ partS lt f ((A3.drop off).take low.length) n ++ A3.drop (off + low.length) = R
        rw [y1, y2, y3, ← hR]
        simp only [List.append_assoc]
    · rw [if_neg (by omega), if_pos c] at hR
      rw [← hA3] at hR
      subst hR
      have q1 : Ω .lt (Ω .ci n) (Ω .ci low.length) = false := by simp only [wz]; omega
      have q2 : Ω .eq (Ω .ci n) (Ω .ci (Ω .slen (O low))) = true := eq_true'.2 (by rw [k1, c])
      refine rq ?_
      exact ⟨[], rfl, rfl, rfl⟩
    · rw [if_neg (by omega), if_neg (by omega)] at hR
      have q1 : Ω .lt (Ω .ci n) (Ω .ci low.length) = false := by simp only [wz]; omega
      have q2 : Ω .eq (Ω .ci n) (Ω .ci (Ω .slen (O low))) = false := eq_false'.2 (fun q => by rw [k1] at q; have := Int.ofNat.inj q; omega)
      have x1 : (A.take off ++ (low ++ [p])).length = off + (low.length + 1) := by simp only [List.length_append, x0, List.length_singleton]
      have hA3' : A3 = (A.take off ++ (low ++ [p])) ++ (high ++ A.drop (off + j)) := by rw [hA3]; simp
      have y1 : A3.take (off + (low.length + 1)) = A.take off ++ (low ++ [p]) := by rw [hA3', List.take_left' x1]
      have y2 : (A3.drop (off + (low.length + 1))).take high.length = high := by rw [hA3', List.drop_left' x1, List.take_left' rfl]
      have y3 : A3.drop (off + (low.length + 1) + high.length) = A.drop (off + j) := by
        rw [← List.drop_drop, hA3', List.drop_left' x1, List.drop_left' rfl]
      have hw2 : Ω .wrap .i64 (Ω .ci j - Ω .ci high.length) = Ω .ci (low.length + 1) := by
        rw [wrap_sub (by omega) (by omega), show j - high.length = low.length + 1 by omega]
      have hw3 : Ω .wrap .i64 (Ω .ci n - Ω .ci (low.length + 1)) = Ω .ci (n - (low.length + 1)) := wrap_sub (by omega) (by omega)
      have hns : Ω .nsub j (low.length + 1) = high.length := by simp only [wz]; omega
      refine rq ?_
      rw [k1, k2, hw, hw2, hw3, tn_ci, hns]
      refine ⟨ci_nonneg _, (by simp only [wz]; omega), (by simp only [wz]; omega), (by simp only [wz]; omega), (fun h => nomatch h), ⟨off + (low.length + 1), high.length, n - (low.length + 1), A3⟩, [0, 1, 2, 3], ⟨?_, ?_, ?_, A3n, A3o, f, ?_, ?_⟩, (by show high.length < j; omega), rfl, rfl, rfl⟩
      · show off + (low.length + 1) + high.length ≤ A3.length
        omega
      · show A3.length = order.length
        omega
      · show n - (low.length + 1) < high.length
        omega
      · show high.length ≤ f
        omega
      · show A3.take (off + (low.length + 1)) ++ partS lt f ((A3.drop (off + (low.length + 1))).take high.length) (n - (low.length + 1)) ++ A3.drop (off + (low.length + 1) + high.length) = R
        rw [y1, y2, y3, ← hR]
        simp only [List.append_assoc, List.cons_append, List.nil_append]
end Go.K.S
end
section
/-
  The tree that is built fits: plain Lean.
-/
namespace Go.K
open Go Go.K.S
set_option linter.unusedVariables false
/-- what a builder has -/
structure BS where
  nodes : List NodeL
  order : List Nat
/-- the box of some triangles -/
def joinT (tris : List TL) (l : List Nat) : BL := Ψ .cB (bjoins (l.map fun i => bxT (tlAt tris i)))
/-- a node of the tree that is built, and what is below it -/
def nodeS (m : Nat → VL) (tris : List TL) : Nat → Nat → Nat → BS → BS
  | 0, _, _, s => s
  | g + 1, f, c, s =>
    if c ≤ 4 then ⟨s.nodes ++ [⟨joinT tris ((s.order.drop f).take c), 0, 0, Ω .ci f, Ω .ci c⟩], s.order⟩
    else
      let s3 := nodeS m tris g f (c / 2) ⟨s.nodes ++ [⟨joinT tris ((s.order.drop f).take c), 0, 0, 0, 0⟩],
        s.order.take f ++ partS (aheadS m (widS (bxM m ((s.order.drop f).take c)))) c ((s.order.drop f).take c) (c / 2) ++ s.order.drop (f + c)⟩
      let s4 := nodeS m tris g (f + c / 2) (c - c / 2) s3
      ⟨s4.nodes.set s.nodes.length ⟨joinT tris ((s.order.drop f).take c), Ω .ci (s.nodes.length + 1), Ω .ci s3.nodes.length, 0, 0⟩, s4.order⟩

/-- all leaves' places lie there -/
def TR.inSeg (lo hi : Nat) : TR → Prop
  | .leaf _ _ f c => lo ≤ f ∧ f + c ≤ hi
  | .inner _ _ l r => l.inSeg lo hi ∧ r.inSeg lo hi
theorem TR.inSeg.mono {lo hi lo' hi' : Nat} (h1 : lo' ≤ lo) (h2 : hi ≤ hi') : ∀ {t : TR}, t.inSeg lo hi → t.inSeg lo' hi'
  | .leaf _ _ f c, h => ⟨Nat.le_trans h1 h.1, Nat.le_trans h.2 h2⟩
  | .inner _ _ l r, h => ⟨h.1.mono h1 h2, h.2.mono h1 h2⟩
theorem seg_eq {o o' : List Nat} {f c : Nat} (h : ∀ j, f ≤ j → j < f + c → o'[j]? = o[j]?) : (o'.drop f).take c = (o.drop f).take c := by
  refine List.ext_getElem? fun j => ?_
  rw [List.getElem?_take, List.getElem?_take]
  split
  · rw [List.getElem?_drop, List.getElem?_drop]; exact h _ (by omega) (by omega)
  · rfl
theorem TR.set_congr {o o' : List Nat} {lo hi : Nat} (h : ∀ j, lo ≤ j → j < hi → o'[j]? = o[j]?) : ∀ {t : TR}, t.inSeg lo hi → t.set o' = t.set o
  | .leaf _ _ f c, hs => seg_eq fun j a b => h j (Nat.le_trans hs.1 a) (Nat.lt_of_lt_of_le b hs.2)
  | .inner _ _ l r, hs => by simp only [TR.set]; rw [TR.set_congr h hs.1, TR.set_congr h hs.2]
theorem TR.held_congr {o o' : List Nat} {tris : List TL} {lo hi : Nat} (h : ∀ j, lo ≤ j → j < hi → o'[j]? = o[j]?) : ∀ {t : TR}, t.inSeg lo hi → t.held o tris → t.held o' tris
  | .leaf _ n f c, hs, hh => by
    simp only [TR.held] at hh ⊢
    rw [seg_eq (o := o) fun j a b => h j (Nat.le_trans hs.1 a) (Nat.lt_of_lt_of_le b hs.2)]
    exact hh
  | .inner _ n l r, hs, hh => by
    simp only [TR.held] at hh ⊢
    rw [TR.set_congr h hs.1, TR.set_congr h hs.2]
    exact ⟨hh.1, TR.held_congr h hs.1 hh.2.1, TR.held_congr h hs.2 hh.2.2⟩
theorem TR.fit_congr {nodes nodes' : List NodeL} {order order' : List Nat} (ho : order'.length = order.length) : ∀ {t : TR} {e : Nat}, t.fit nodes order e → (∀ i, t.ix ≤ i → i < e → nodes'[i]? = nodes[i]?) → t.fit nodes' order' e
  | .leaf i n f c, e, h, hn => by
    obtain ⟨h1, h2, h3, h4, h5, h6⟩ := h
    refine ⟨(hn i (Nat.le_refl _) (by omega)).trans h1, h2, h3, h4, by omega, h6⟩
  | .inner i n l r, e, h, hn => by
    obtain ⟨h1, h2, h3, h4, h5, h6, h7⟩ := h
    have a1 := TR.fit_lt h6
    have a2 := TR.fit_lt h7
    simp only [TR.ix] at hn
    exact ⟨(hn i (Nat.le_refl _) (by omega)).trans h1, h2, h3, h4, h5, TR.fit_congr ho h6 fun j b1 b2 => hn j (by omega) (by omega), TR.fit_congr ho h7 fun j b1 b2 => hn j (by omega) (by omega)⟩

theorem holds_joinr {b c : B3} {p : V3} (h : holds c p) : holds (bjoin b c) p := by
  have key : ∀ {x lo hi lo' hi' : Rat}, btw x lo hi → btw x (rmin lo' lo) (rmax hi' hi) := fun {x lo hi lo' hi'} h => by
    unfold btw rmin rmax at *
    split <;> split <;> grind
  exact ⟨key h.1, key h.2.1, key h.2.2⟩
theorem holds_joins {l : List BL} {b : BL} {p : V3} (hb : b ∈ l) (h : holds (bv b) p) : holds (bjoins l) p := by
  have key : ∀ (r : List BL) (s : B3), (holds s p ∨ b ∈ r) → holds ((r.map bv).foldl bjoin s) p := fun r => by
    induction r with
    | nil => intro s hs; exact hs.elim id fun q => absurd q List.not_mem_nil
    | cons c r ih =>
      intro s hs
      refine ih _ ?_
      rcases hs with hs | hs
      · exact .inl (holds_join hs)
      · rcases List.mem_cons.1 hs with rfl | hs
        · exact .inl (holds_joinr h)
        · exact .inr hs
  cases l with
  | nil => exact absurd hb List.not_mem_nil
  | cons c r =>
    refine key r (bv c) ?_
    rcases List.mem_cons.1 hb with rfl | hb
    · exact .inl h
    · exact .inr hb
theorem join_held {tris : List TL} (l : List Nat) : boxHolds tris (bv (joinT tris l)) l := fun j hj t ht => by
  have e : tlAt tris j = t := by unfold tlAt; rw [ht]; rfl
  have hm : bxT t ∈ l.map fun i => bxT (tlAt tris i) := List.mem_map.2 ⟨j, hj, by rw [e]⟩
  have hb : bv (bxT t) = bjoins ([t.a, t.b, t.c].map pbox) := bv_cB _
  have hl := leaf_holds t
  rw [← hb] at hl
  show holds (bv (Ψ .cB _)) _ ∧ holds (bv (Ψ .cB _)) _ ∧ holds (bv (Ψ .cB _)) _
  rw [bv_cB]
  exact ⟨holds_joins hm hl.1, holds_joins hm hl.2.1, holds_joins hm hl.2.2⟩

/-- what comes of a node -/
structure NodeOk (tris : List TL) (f c : Nat) (s s' : BS) (t : TR) : Prop where
  ix : t.ix = s.nodes.length
  seg : t.inSeg f (f + c)
  fit : t.fit s'.nodes s'.order s'.nodes.length
  held : t.held s'.order tris
  set : ∀ j, j ∈ t.set s'.order ↔ j ∈ (s.order.drop f).take c
  perm : ((s'.order.drop f).take c).Perm ((s.order.drop f).take c)
  len : s'.order.length = s.order.length
  out : ∀ j, j < f ∨ f + c ≤ j → s'.order[j]? = s.order[j]?
  old : ∀ i, i < s.nodes.length → s'.nodes[i]? = s.nodes[i]?
  more : s'.nodes.length + 1 ≤ s.nodes.length + 2 * c
theorem NodeOk.lt {tris : List TL} {f c : Nat} {s s' : BS} {t : TR} (h : NodeOk tris f c s s' t) : s.nodes.length < s'.nodes.length := by
  have := TR.fit_lt h.fit
  rw [h.ix] at this
  exact this.1
theorem nodup_of_parts {o o' : List Nat} {f c : Nat} (hl : o'.length = o.length) (hp : ((o'.drop f).take c).Perm ((o.drop f).take c)) (ho : ∀ j, j < f ∨ f + c ≤ j → o'[j]? = o[j]?) : o'.Perm o := by
  have e : ∀ l : List Nat, l = l.take f ++ ((l.drop f).take c ++ l.drop (f + c)) := fun l => by
    rw [← List.drop_drop, List.take_append_drop, List.take_append_drop]
  have h1 : o'.take f = o.take f := by
    refine List.ext_getElem? fun j => ?_
    rw [List.getElem?_take, List.getElem?_take]
    split
    · exact ho j (.inl (by assumption))
    · rfl
  have h2 : o'.drop (f + c) = o.drop (f + c) := by
    refine List.ext_getElem? fun j => ?_
    rw [List.getElem?_drop, List.getElem?_drop]
    exact ho _ (.inr (by omega))
  rw [e o', e o, h1, h2]
  exact (hp.append_right _).append_left _
theorem nodeS_ok {m : Nat → VL} {tris : List TL} : ∀ (g f c : Nat) (s : BS), c ≤ g → 0 < c → f + c ≤ s.order.length → s.order.Nodup → ∃ t, NodeOk tris f c s (nodeS m tris g f c s) t
  | 0, f, c, s, hg, hc, _, _ => by omega
  | g + 1, f, c, s, hg, hc, hfc, hnd => by
    by_cases h4 : c ≤ 4
    · have e : nodeS m tris (g + 1) f c s = ⟨s.nodes ++ [⟨joinT tris ((s.order.drop f).take c), 0, 0, Ω .ci f, Ω .ci c⟩], s.order⟩ := by rw [nodeS, if_pos h4]
      rw [e]
      refine ⟨.leaf s.nodes.length ⟨joinT tris ((s.order.drop f).take c), 0, 0, Ω .ci f, Ω .ci c⟩ f c, rfl, ⟨Nat.le_refl _, Nat.le_refl _⟩, ?_, join_held _, fun j => Iff.rfl, .refl _, rfl, fun _ _ => rfl, fun i hi => ?_, ?_⟩
      · refine ⟨?_, rfl, rfl, hc, hfc, ?_⟩
        · simp
        · simp
      · show (s.nodes ++ _)[i]? = _
        rw [List.getElem?_append_left hi]
      · simp only [List.length_append, List.length_singleton]; omega
    · have e : nodeS m tris (g + 1) f c s = (
          let s3 := nodeS m tris g f (c / 2) ⟨s.nodes ++ [⟨joinT tris ((s.order.drop f).take c), 0, 0, 0, 0⟩],
            s.order.take f ++ partS (aheadS m (widS (bxM m ((s.order.drop f).take c)))) c ((s.order.drop f).take c) (c / 2) ++ s.order.drop (f + c)⟩
          let s4 := nodeS m tris g (f + c / 2) (c - c / 2) s3
          ⟨s4.nodes.set s.nodes.length ⟨joinT tris ((s.order.drop f).take c), Ω .ci (s.nodes.length + 1), Ω .ci s3.nodes.length, 0, 0⟩, s4.order⟩) := by rw [nodeS, if_neg h4]
      rw [e]
      clear e
      simp only
      have hsl : ((s.order.drop f).take c).length = c := by rw [List.length_take, List.length_drop]; omega
      have hseg : ((s.order.drop f).take c).Nodup := (hnd.sublist (List.drop_sublist _ _)).sublist (List.take_sublist _ _)
      have hpp := partS_perm (lt := aheadS m (widS (bxM m ((s.order.drop f).take c)))) (fun p => by unfold aheadS; simp) c ((s.order.drop f).take c) (c / 2) hseg
      generalize partS (aheadS m (widS (bxM m ((s.order.drop f).take c)))) c ((s.order.drop f).take c) (c / 2) = pp at hpp ⊢
      have hpl : pp.length = c := hpp.length_eq.trans hsl
      obtain ⟨s2, hs2⟩ : ∃ s2 : BS, s2 = ⟨s.nodes ++ [⟨joinT tris ((s.order.drop f).take c), 0, 0, 0, 0⟩], s.order.take f ++ pp ++ s.order.drop (f + c)⟩ := ⟨_, rfl⟩
      rw [← hs2]
      have l0 : (s.order.take f).length = f := by rw [List.length_take]; omega
      have o2l : s2.order.length = s.order.length := by
        rw [hs2]; simp only [List.length_append, l0, hpl, List.length_drop]; omega
      have o2seg : (s2.order.drop f).take c = pp := by
        rw [hs2]
        show ((s.order.take f ++ pp ++ s.order.drop (f + c)).drop f).take c = pp
        rw [List.append_assoc, List.drop_left' l0, List.take_left' hpl]
      have o2out : ∀ j, j < f ∨ f + c ≤ j → s2.order[j]? = s.order[j]? := fun j hj => by
        rw [hs2]
        show (s.order.take f ++ pp ++ s.order.drop (f + c))[j]? = _
        rcases hj with hj | hj
        · rw [List.append_assoc, List.getElem?_append_left (by omega), List.getElem?_take, if_pos hj]
        · rw [List.getElem?_append_right (by rw [List.length_append]; omega), List.getElem?_drop, List.length_append, l0, hpl]
          congr 1; omega
      have o2p : s2.order.Perm s.order := nodup_of_parts o2l (by rw [o2seg]; exact hpp) o2out
      have n2l : s2.nodes.length = s.nodes.length + 1 := by rw [hs2]; simp
      obtain ⟨t3, h3⟩ := nodeS_ok (m := m) (tris := tris) g f (c / 2) s2 (by omega) (by omega) (by omega) (o2p.nodup_iff.2 hnd)
      generalize nodeS m tris g f (c / 2) s2 = s3 at h3 ⊢
      have o3p : s3.order.Perm s2.order := nodup_of_parts h3.len h3.perm h3.out
      have l3 := h3.len
      obtain ⟨t4, h4'⟩ := nodeS_ok (m := m) (tris := tris) g (f + c / 2) (c - c / 2) s3 (by omega) (by omega) (by omega) ((o3p.trans o2p).nodup_iff.2 hnd)
      generalize nodeS m tris g (f + c / 2) (c - c / 2) s3 = s4 at h4' ⊢
      have q3 := h3.lt
      have q4 := h4'.lt
      have m3 := h3.more
      have m4 := h4'.more
      have i3 := h3.ix
      have i4 := h4'.ix
      have l4 := h4'.len
      have hset : ∀ i, i ≠ s.nodes.length → (s4.nodes.set s.nodes.length ⟨joinT tris ((s.order.drop f).take c), Ω .ci (s.nodes.length + 1), Ω .ci s3.nodes.length, 0, 0⟩)[i]? = s4.nodes[i]? := fun i hi => List.getElem?_set_ne (Ne.symm hi)
      -- the two halves of the places
      have halves : ∀ o : List Nat, (o.drop f).take c = (o.drop f).take (c / 2) ++ (o.drop (f + c / 2)).take (c - c / 2) := fun o => by
        rw [← List.drop_drop, ← List.take_add]; congr 1; omega
      have e43 : (s4.order.drop f).take (c / 2) = (s3.order.drop f).take (c / 2) := seg_eq fun j a b => h4'.out j (.inl (by omega))
      have e32 : (s3.order.drop (f + c / 2)).take (c - c / 2) = (s2.order.drop (f + c / 2)).take (c - c / 2) := seg_eq fun j a b => h3.out j (.inr (by omega))
      have hperm : ((s4.order.drop f).take c).Perm ((s.order.drop f).take c) := by
        rw [halves s4.order, e43]
        refine ((h3.perm.append h4'.perm).trans ?_).trans hpp
        rw [e32, ← halves, o2seg]
      have s3set : t3.set s4.order = t3.set s3.order := TR.set_congr (fun j a b => h4'.out j (.inl (by omega))) h3.seg
      have hall : ∀ j, j ∈ t3.set s4.order ++ t4.set s4.order ↔ j ∈ (s.order.drop f).take c := fun j => by
        rw [List.mem_append, s3set, h3.set, h4'.set, ← hpp.mem_iff, ← o2seg, halves s2.order, List.mem_append, e32]
      refine ⟨.inner s.nodes.length ⟨joinT tris ((s.order.drop f).take c), Ω .ci (s.nodes.length + 1), Ω .ci s3.nodes.length, 0, 0⟩ t3 t4, rfl,
        ⟨h3.seg.mono (Nat.le_refl _) (by omega), h4'.seg.mono (by omega) (by omega)⟩, ?_, ⟨?_, ?_, h4'.held⟩, hall, hperm, ?_, ?_, ?_, ?_⟩
      · refine ⟨?_, rfl, ?_, ?_, ?_, ?_, ?_⟩
        · show (s4.nodes.set _ _)[s.nodes.length]? = _
          rw [List.getElem?_set_self (by omega)]
        · show Ω .ci (s.nodes.length + 1) = Ω .ci t3.ix
          rw [i3, n2l]
        · show Ω .ci s3.nodes.length = Ω .ci t4.ix
          rw [i4]
        · rw [i3, n2l]
        · refine TR.fit_congr (nodes := s3.nodes) (order := s3.order) l4 (by rw [i4]; exact h3.fit) fun i a b => ?_
          rw [hset i (by omega)]
          exact h4'.old i (by omega)
        · rw [List.length_set]
          exact TR.fit_congr (nodes := s4.nodes) (order := s4.order) rfl h4'.fit fun i a b => hset i (by omega)
      · intro j hj
        exact join_held _ j ((hall j).1 hj)
      · exact TR.held_congr (fun j a b => h4'.out j (.inl (by omega))) h3.seg h3.held
      · show s4.order.length = s.order.length
        omega
      · intro j hj
        show s4.order[j]? = s.order[j]?
        rw [h4'.out j (by omega), h3.out j (by omega), o2out j hj]
      · intro i hi
        show (s4.nodes.set _ _)[i]? = _
        rw [hset i (by omega), h4'.old i (by omega), h3.old i (by omega), hs2]
        exact List.getElem?_append_left hi
      · show (s4.nodes.set _ _).length + 1 ≤ _
        rw [List.length_set]
        omega
end Go.K
end
section
/-
  Contracts: a tree of boxes is built: node.
-/
namespace Go.K
open Go
set_option linter.unusedVariables false
structure NF (N : List NodeL → List D) : Prop where
  get : ∀ (l : List NodeL) (i : Nat) n, l[i]? = some n → Ω .sget (N l) i = some (.agg (dNode Ψ n))
  len : ∀ l, Ω .slen (N l) = l.length
  cat : ∀ l n, Ω .scat (N l) [.agg (dNode Ψ n)] = N (l ++ [n])
  set : ∀ l i n, Ω .sset (N l) i (.agg (dNode Ψ n)) = N (l.set i n)
theorem slen_sset (xs : List D) (k : Nat) (y : D) : Ω .slen (Ω .sset xs k y) = Ω .slen xs := by simp [w_slen, w_sset]
theorem set_last {α : Type} (l : List α) (a b : α) : (l ++ [a]).set l.length b = l ++ [b] := by
  rw [List.set_append_right _ _ (Nat.le_refl _), Nat.sub_self]; rfl
theorem nodesD_ok : NF nodesD where
  get := fun l i n h => by simp [nodesD, w_sget, h]
  len := nodesD_len
  cat := fun l n => (nodesD_snoc l n).symm
  set := fun l i n => by simp [nodesD, w_sset, List.map_set]
end Go.K
namespace Go.K.S
open Go Go.K
set_option maxHeartbeats 8000000
set_option maxRecDepth 20000
set_option linter.unusedVariables false
set_option linter.unusedSimpArgs false
theorem bxT_n {k : Nat} {t : TL} (ht : Tn k t) (hk : 0 < k) : Bn k (bxT t) := Bn_cB (Bq_joins hk _ (fun b hb => by
  obtain ⟨v, hv, rfl⟩ := List.mem_map.1 hb
  simp only [List.mem_cons, List.not_mem_nil, or_false] at hv
  rcases hv with rfl | rfl | rfl
  · exact ⟨ht.a, ht.a⟩
  · exact ⟨ht.b, ht.b⟩
  · exact ⟨ht.c, ht.c⟩))
theorem bnode_good {m : Nat → VL} {tris : List TL} {TD AT : List D} {k : Nat} (hT : ∀ (i : Nat) t, tris[i]? = some t → Ω .sget TD i = some (.agg (dT Ψ t))) (hA : ∀ i, i < tris.length → Ω .sget AT i = some (.agg (dV Ψ (m i))))
    (ht : ∀ t, t ∈ tris → Tn k t) (hm : ∀ i, Vn k (m i)) (hk : 0 < k) (hk2 : k < 134217728) : ∀ (g f c : Nat) (s : BS), c ≤ g → 0 < c → f + c ≤ s.order.length → s.order.Nodup → (∀ i, i ∈ s.order → i < tris.length) → s.order.length < 100000 → s.nodes.length + 2 * c < 400000 →
    Good P F.P_bvh_builder_node [.ptr 0 0, .d (.i .i64 (Ω .ci f)), .d (.i .i64 (Ω .ci c))] [.var (bcell Ψ (.own 1 22) (.own 2 1) (.own 3 9) TD), .row true T.api_Node 22 (nodesD s.nodes), .row true T.int 1 (oD s.order), .row true T.api_Vec 9 AT]
      (.d (.i .i64 (Ω .ci s.nodes.length))) [.var (bcell Ψ (.own 4 22) (.own 2 1) (.own 3 9) TD), .dead, .row true T.int 1 (oD (nodeS m tris g f c s).order), .row true T.api_Vec 9 AT, .row true T.api_Node 22 (nodesD (nodeS m tris g f c s).nodes)]
  | 0, f, c, s, h1, h2, _, _, _, _, _ => by omega
  | g + 1, f, c, ⟨nodes, order⟩, hg, hc, hfc, hnd, hov, hos, hns => by
    refine G.P_bvh_builder_node (hb := of_decide_eq_true rfl) fun C C2 hC hC2 => ?_
    simp only at hfc hnd hov hos hns
    obtain ⟨s', hs'⟩ : ∃ s', s' = nodeS m tris (g + 1) f c ⟨nodes, order⟩ := ⟨_, rfl⟩
    rw [← hs']
    rw [nodeS] at hs'
    simp only at hs'
    have hbx : ∀ b, b ∈ ((order.drop f).take c).map (fun i => bxT (tlAt tris i)) → Bn k b := fun b hb => by
      obtain ⟨i, hi, rfl⟩ := List.mem_map.1 hb
      have hil := hov i (List.mem_of_mem_drop (List.mem_of_mem_take hi))
      have e : tlAt tris i = tris[i] := by unfold tlAt; rw [List.getElem?_eq_getElem hil]; rfl
      rw [e]
      exact bxT_n (ht _ (List.getElem_mem hil)) hk
    have hJ : Bn k (joinT tris ((order.drop f).take c)) := Bn_cB (Bq_joins hk _ hbx)
    have gj := join_good (((order.drop f).take c).map fun i => bxT (tlAt tris i)) (k := k) hbx (by rw [List.length_map, List.length_take, List.length_drop]; omega) hk (by omega)
    have eJ : Ψ .cB (bjoins (((order.drop f).take c).map fun i => bxT (tlAt tris i))) = joinT tris ((order.drop f).take c) := rfl
    rw [eJ] at gj
    generalize hJJ : joinT tris ((order.drop f).take c) = J at *
    have hst : ∀ j i, j < c → order[f + j]? = some i → ((order.drop f).take (j + 1)).map (fun i => bxT (tlAt tris i)) = ((order.drop f).take j).map (fun i => bxT (tlAt tris i)) ++ [bxT (tlAt tris i)] := fun j i hj hi => by
      rw [take_succ_of (l := order.drop f) (i := j) (x := i) (by rw [List.getElem?_drop]; exact hi)]; simp
    have hz : ((order.drop f).take 0).map (fun i => bxT (tlAt tris i)) = [] := rfl
    have hlen : ∀ j, j ≤ c → (((order.drop f).take j).map (fun i => bxT (tlAt tris i))).length = j := fun j hj => by simp; omega
    obtain ⟨S, hS⟩ : ∃ S : Nat → List BL, S = fun j => ((order.drop f).take j).map (fun i => bxT (tlAt tris i)) := ⟨_, rfl⟩
    have hSe : ∀ j, ((order.drop f).take j).map (fun i => bxT (tlAt tris i)) = S j := fun j => by rw [hS]
    simp only [hSe] at hst hz hlen gj
    clear hSe hS
    have hoF := oD_ok
    have hnF := nodesD_ok
    have hel : ∀ j, j < c → ∃ i, order[f + j]? = some i ∧ Ω .sget (oD order) (Ω .nadd f j) = some (.i .i64 (Ω .ci i)) ∧ Ω .sget TD i = some (.agg (dT Ψ (tlAt tris i))) ∧ Good P F.bvh_around [.d (.agg (dT Ψ (tlAt tris i)))] [] (.d (.agg (dB Ψ (bxT (tlAt tris i))))) [] := fun j hj => by
      obtain ⟨i, hi⟩ : ∃ i, order[f + j]? = some i := ⟨_, List.getElem?_eq_getElem (by omega)⟩
      have hil := hov i (List.mem_of_getElem? hi)
      obtain ⟨t, htr⟩ : ∃ t, tris[i]? = some t := ⟨_, List.getElem?_eq_getElem hil⟩
      have e : tlAt tris i = t := by unfold tlAt; rw [htr]; rfl
      exact ⟨i, hi, hoF.get _ _ _ hi, (by rw [e]; exact hT _ _ htr), (by rw [e]; exact taround_good t (ht t (List.mem_of_getElem? htr)) hk (by omega))⟩
    have hw : Ω .wrap .i64 (Ω .ci f + Ω .ci c) = Ω .ci (f + c) := by rw [wrap_add (by omega)]
    have hol := hoF.len order
    have hnl := hnF.len nodes
    have e1 : Ω .nsub (f + c) f = c := by simp only [wz]; omega
    -- the callees
    have hrec : 4 < c → ∃ (al : Int) (s2 s3 s4 : BS), s' = ⟨s4.nodes.set nodes.length ⟨J, Ω .ci (nodes.length + 1), Ω .ci s3.nodes.length, 0, 0⟩, s4.order⟩ ∧
        Good P F.P_bvh_builder_widest [.ptr 0 0, .d (.i .i64 (Ω .ci f)), .d (.i .i64 (Ω .ci c))] [.var (bcell Ψ (.own 1 22) (.own 2 1) (.own 3 9) TD), .row true T.api_Node 22 (Ω .scat (nodesD nodes) [.agg (dNode Ψ ⟨J, 0, 0, 0, 0⟩)]), .row true T.int 1 (oD order), .row true T.api_Vec 9 AT]
          (.d (.i .i64 al)) [.var (bcell Ψ (.own 1 22) (.own 2 1) (.own 3 9) TD), .row true T.api_Node 22 (Ω .scat (nodesD nodes) [.agg (dNode Ψ ⟨J, 0, 0, 0, 0⟩)]), .row true T.int 1 (oD order), .row true T.api_Vec 9 AT] ∧
        Good P F.P_bvh_builder_part [.ptr 0 0, .ref 2 1 f c, .d (.i .i64 (Ω .ci (c / 2))), .d (.i .i64 al)] [.var (bcell Ψ (.own 1 22) (.own 2 1) (.own 3 9) TD), .row true T.api_Node 22 (Ω .scat (nodesD nodes) [.agg (dNode Ψ ⟨J, 0, 0, 0, 0⟩)]), .row true T.int 1 (oD order), .row true T.api_Vec 9 AT]
          (.tup []) [.var (bcell Ψ (.own 1 22) (.own 2 1) (.own 3 9) TD), .row true T.api_Node 22 (Ω .scat (nodesD nodes) [.agg (dNode Ψ ⟨J, 0, 0, 0, 0⟩)]), .row true T.int 1 (oD s2.order), .row true T.api_Vec 9 AT] ∧
        Good P F.P_bvh_builder_node [.ptr 0 0, .d (.i .i64 (Ω .ci f)), .d (.i .i64 (Ω .ci (c / 2)))] [.var (bcell Ψ (.own 1 22) (.own 2 1) (.own 3 9) TD), .row true T.api_Node 22 (Ω .scat (nodesD nodes) [.agg (dNode Ψ ⟨J, 0, 0, 0, 0⟩)]), .row true T.int 1 (oD s2.order), .row true T.api_Vec 9 AT]
          (.d (.i .i64 (Ω .ci (nodes.length + 1)))) [.var (bcell Ψ (.own 4 22) (.own 2 1) (.own 3 9) TD), .dead, .row true T.int 1 (oD s3.order), .row true T.api_Vec 9 AT, .row true T.api_Node 22 (nodesD s3.nodes)] ∧
        Good P F.P_bvh_builder_node [.ptr 0 0, .d (.i .i64 (Ω .ci (f + c / 2))), .d (.i .i64 (Ω .ci (c - c / 2)))] [.var (bcell Ψ (.own 1 22) (.own 2 1) (.own 3 9) TD), .row true T.api_Node 22 (nodesD s3.nodes), .row true T.int 1 (oD s3.order), .row true T.api_Vec 9 AT]
          (.d (.i .i64 (Ω .ci s3.nodes.length))) [.var (bcell Ψ (.own 4 22) (.own 2 1) (.own 3 9) TD), .dead, .row true T.int 1 (oD s4.order), .row true T.api_Vec 9 AT, .row true T.api_Node 22 (nodesD s4.nodes)] ∧
        s4.nodes[nodes.length]? = some ⟨J, 0, 0, 0, 0⟩ := fun h4 => by
      rw [if_neg (by omega)] at hs'
      have hseg : ((order.drop f).take c).Nodup := (hnd.sublist (List.drop_sublist _ _)).sublist (List.take_sublist _ _)
      have hsl : ((order.drop f).take c).length = c := by rw [List.length_take, List.length_drop]; omega
      have hpp := partS_perm (lt := aheadS m (widS (bxM m ((order.drop f).take c)))) (fun p => by unfold aheadS; simp) c ((order.drop f).take c) (c / 2) hseg
      have hpl := hpp.length_eq.trans hsl
      have l0 : (order.take f).length = f := by rw [List.length_take]; omega
      obtain ⟨s2, hs2⟩ : ∃ s2 : BS, s2 = ⟨nodes ++ [⟨J, 0, 0, 0, 0⟩], order.take f ++ partS (aheadS m (widS (bxM m ((order.drop f).take c)))) c ((order.drop f).take c) (c / 2) ++ order.drop (f + c)⟩ := ⟨_, rfl⟩
      rw [← hs2] at hs'
      have o2p : s2.order.Perm order := by
        rw [hs2]
        have e : order.take f ++ (order.drop f).take c ++ order.drop (f + c) = order := by
          rw [List.append_assoc, ← List.drop_drop, List.take_append_drop, List.take_append_drop]
        exact ((hpp.append_left _).append_right _).trans (.of_eq e)
      have l2 := o2p.length_eq
      have n2 : s2.nodes.length = nodes.length + 1 := by rw [hs2]; simp
      have nd2 := o2p.nodup_iff.2 hnd
      obtain ⟨t3, h3⟩ := nodeS_ok (m := m) (tris := tris) g f (c / 2) s2 (by omega) (by omega) (by omega) nd2
      have g3 := bnode_good hT hA ht hm hk hk2 g f (c / 2) s2 (by omega) (by omega) (by omega) nd2 (fun i hi => hov i (o2p.mem_iff.1 hi)) (by omega) (by omega)
      obtain ⟨s3, hs3⟩ : ∃ s3, s3 = nodeS m tris g f (c / 2) s2 := ⟨_, rfl⟩
      rw [← hs3] at hs' h3 g3
      have o3p : s3.order.Perm order := (nodup_of_parts h3.len h3.perm h3.out).trans o2p
      have l3 := o3p.length_eq
      have m3 := h3.more
      have nd3 := o3p.nodup_iff.2 hnd
      obtain ⟨t4, h4'⟩ := nodeS_ok (m := m) (tris := tris) g (f + c / 2) (c - c / 2) s3 (by omega) (by omega) (by omega) nd3
      have g4 := bnode_good hT hA ht hm hk hk2 g (f + c / 2) (c - c / 2) s3 (by omega) (by omega) (by omega) nd3 (fun i hi => hov i (o3p.mem_iff.1 hi)) (by omega) (by omega)
      obtain ⟨s4, hs4⟩ : ∃ s4, s4 = nodeS m tris g (f + c / 2) (c - c / 2) s3 := ⟨_, rfl⟩
      rw [← hs4] at hs' h4' g4
      have q3 := h3.lt
      refine ⟨widS (bxM m ((order.drop f).take c)), s2, s3, s4, hs', widest_good (order := order) (m := m) (OD := oD order) (TD := TD) (AT := AT) ⟨hoF.get _, hol, fun i hi => hA i (hov i hi), hos⟩ f c hfc hc hm hk hk2, ?_, ?_, g4, ?_⟩
      · have := part_good (order := order) (m := m) (ND := Ω .scat (nodesD nodes) [.agg (dNode Ψ ⟨J, 0, 0, 0, 0⟩)]) (TD := TD) (AT := AT) (fun i hi => hA i (hov i hi)) hos hnd f c (c / 2) (widS (bxM m ((order.drop f).take c))) hfc (by omega) hm hk hk2
        rw [hs2]
        exact this
      · rw [n2] at g3
        rw [hnF.cat]
        have e : s2.nodes = nodes ++ [⟨J, 0, 0, 0, 0⟩] := by rw [hs2]
        rw [e] at g3
        exact g3
      · rw [h4'.old _ (by omega), h3.old _ (by omega), hs2]
        simp
    generalize oD = O at *
    generalize nodesD = N at *
    refine rq ?_
    rw [hw]
    refine rq ?_
    rw [hol]
    refine ⟨ci_nonneg _, (by simp only [wz]; omega), (by simp only [wz]; omega), (by simp only [wz]; omega), (fun h => nomatch h), ?_⟩
    rw [e1]
    refine LoopG.introB (σ := Nat) [.slot 7 900001 T.api_Box 18] [0, 1, 2, 7, 23, 24, 25] [0, 1, 2, 3, 1050]
      (fun i => [.ptr 0 0, .d (.i .i64 (Ω .ci f)), .d (.i .i64 (Ω .ci c)), .own 1050 18, .ref 2 1 f c, .d (.i .i64 (Ω .ci c)), .d (.i .i64 (Ω .ci i))])
      (fun i => [.var (bcell Ψ (.own 1 22) (.own 2 1) (.own 3 9) TD), .row true T.api_Node 22 (N nodes), .row true T.int 1 (O order), .row true T.api_Vec 9 AT, .row true T.api_Box 18 (Ψ .dBs (S i))])
      (fun i => i ≤ c)
      (fun i => c - i) 0 [0, 1, 2, 3, 900001] (Nat.zero_le _) ⟨rfl, rfl, (by rw [hz]; rfl)⟩ ?_
    intro j hj
    have hsl := hlen j hj
    rcases Nat.lt_or_ge j c with hlt | hge
    · obtain ⟨i, hi, h1, h2, h3⟩ := hel j hlt
      have e := hst j i hlt hi
      have hq : Ω .lt (Ω .ci j) (Ω .ci c) = true := by simp only [wz]; omega
      generalize tlAt tris i = t at *
      generalize bxT t = B at *
      refine rq ?_
      refine ⟨j + 1, [0, 1, 2, 3, 1510], hlt, by omega, rfl, ?_, ?_⟩
      · refine Eq.trans (b := [.ptr 0 0, .d (.i .i64 (Ω .ci f)), .d (.i .i64 (Ω .ci c)), .own 1050 18, .ref 2 1 f c, .d (.i .i64 (Ω .ci c)), .d (.i .i64 _)]) rfl ?_
        rw [wrap_succ (by omega)]
      · rw [e, ← scat_dBs]
        rfl
    · obtain rfl : j = c := by omega
      have hq : Ω .lt (Ω .ci j) (Ω .ci j) = false := by simp only [wz]; omega
      by_cases h4 : j ≤ 4
      · rw [if_pos h4] at hs'
        subst hs'
        have q4 : Ω .le (Ω .ci j) 4 = true := by simp only [wz]; omega
        have g1 : Ω .sget (Ω .scat (N nodes) [.agg (dNode Ψ ⟨J, 0, 0, 0, 0⟩)]) nodes.length = some (.agg (dNode Ψ ⟨J, 0, 0, 0, 0⟩)) := by
          rw [hnF.cat]; exact hnF.get _ _ _ (by simp)
        have g2 : Ω .sget (Ω .sset (Ω .scat (N nodes) [.agg (dNode Ψ ⟨J, 0, 0, 0, 0⟩)]) nodes.length (.agg (dNode Ψ ⟨J, 0, 0, Ω .ci f, 0⟩))) nodes.length = some (.agg (dNode Ψ ⟨J, 0, 0, Ω .ci f, 0⟩)) := by
          rw [hnF.cat, hnF.set]; exact hnF.get _ _ _ (by simp)
        have ef : N (nodes ++ [⟨J, 0, 0, Ω .ci f, Ω .ci j⟩]) = Ω .sset (Ω .sset (Ω .scat (N nodes) [.agg (dNode Ψ ⟨J, 0, 0, 0, 0⟩)]) nodes.length (.agg (dNode Ψ ⟨J, 0, 0, Ω .ci f, 0⟩))) nodes.length (.agg (dNode Ψ ⟨J, 0, 0, Ω .ci f, Ω .ci j⟩)) := by
          rw [hnF.cat, hnF.set, hnF.set, set_last, set_last]
        simp only
        rw [ef]
        clear ef hrec hst hel
        refine rq ?_
        rw [hnl]
        refine ⟨ci_nonneg _, (by simp only [wz, slen_scat, hnl]; omega), (by simp only [wz, slen_scat, hnl]; omega), _, g1, ?_⟩
        refine rq ?_
        refine ⟨ci_nonneg _, (by simp only [wz, slen_sset, slen_scat, hnl]; omega), (by simp only [wz, slen_sset, slen_scat, hnl]; omega), _, g2, ?_⟩
        refine rq ?_
        exact ⟨[1810], rfl, rfl, rfl⟩
      · obtain ⟨al, s2, s3, s4, rfl, gw, gp, g3, g4, ha⟩ := hrec (by omega)
        clear hs' hst hel
        obtain ⟨n2, o2⟩ := s2
        obtain ⟨n3, o3⟩ := s3
        obtain ⟨n4, o4⟩ := s4
        simp only at gp g3 g4 ha ⊢
        have q4 : Ω .le (Ω .ci j) 4 = false := by simp only [wz]; omega
        have hdiv : Ω .wrap .i64 ((Ω .ci j).tdiv 2) = Ω .ci (j / 2) := by
          have e : (Ω .ci j).tdiv 2 = Ω .ci (j / 2) := (Int.ofNat_tdiv j 2).symm
          rw [e]
          exact wrap_ci (by omega)
        have hw2 : Ω .wrap .i64 (Ω .ci f + Ω .ci (j / 2)) = Ω .ci (f + j / 2) := by rw [wrap_add (by omega)]
        have hw3 : Ω .wrap .i64 (Ω .ci j - Ω .ci (j / 2)) = Ω .ci (j - j / 2) := by rw [wrap_sub (by omega) (by omega)]
        have g5 : Ω .sget (N n4) nodes.length = some (.agg (dNode Ψ ⟨J, 0, 0, 0, 0⟩)) := hnF.get _ _ _ ha
        have hal : nodes.length < n4.length := (List.getElem?_eq_some_iff.1 ha).1
        have hn4 := hnF.len n4
        have g6 : Ω .sget (Ω .sset (N n4) nodes.length (.agg (dNode Ψ ⟨J, Ω .ci (nodes.length + 1), 0, 0, 0⟩))) nodes.length = some (.agg (dNode Ψ ⟨J, Ω .ci (nodes.length + 1), 0, 0, 0⟩)) := by
          rw [hnF.set]; exact hnF.get _ _ _ (List.getElem?_set_self hal)
        have ef : N (n4.set nodes.length ⟨J, Ω .ci (nodes.length + 1), Ω .ci n3.length, 0, 0⟩) = Ω .sset (Ω .sset (N n4) nodes.length (.agg (dNode Ψ ⟨J, Ω .ci (nodes.length + 1), 0, 0, 0⟩))) nodes.length (.agg (dNode Ψ ⟨J, Ω .ci (nodes.length + 1), Ω .ci n3.length, 0, 0⟩)) := by
          rw [hnF.set, hnF.set, List.set_set]
        rw [ef]
        clear ef hrec
        refine rq ?_
        rw [hdiv]
        refine rq ?_
        rw [hw, hol]
        refine ⟨ci_nonneg _, (by simp only [wz]; omega), (by simp only [wz]; omega), (by simp only [wz]; omega), (fun h => nomatch h), ?_⟩
        refine rq ?_
        rw [e1]
        refine rq ?_
        rw [hw2, hw3]
        refine rq ?_
        rw [hn4, hnl]
        refine ⟨ci_nonneg _, (by simp only [wz]; omega), (by simp only [wz]; omega), _, g5, ?_⟩
        refine rq ?_
        refine ⟨ci_nonneg _, (by simp only [wz, slen_sset, hn4]; omega), (by simp only [wz, slen_sset, hn4]; omega), _, g6, ?_⟩
        refine rq ?_
        exact ⟨[1020056], rfl, rfl, rfl⟩
end Go.K.S
end
section
/-
  Contracts: a tree of boxes is built: Build.
-/
namespace Go.K
open Go
set_option linter.unusedVariables false
/-- the middle of a box, twice -/
def midS (b : BL) : VL := Ψ .cV ⟨rv b.lo.x + rv b.hi.x, rv b.lo.y + rv b.hi.y, rv b.lo.z + rv b.hi.z⟩
def midT (tris : List TL) (i : Nat) : VL := midS (bxT (tlAt tris i))
/-- what is built -/
def buildS (tris : List TL) : BS := nodeS (midT tris) tris tris.length 0 tris.length ⟨[], List.range tris.length⟩
theorem Tn_tl0 {k : Nat} : Tn k tl0 := by
  have h : Rn k ⟨false, [], []⟩ := ⟨fun x hx => absurd hx List.not_mem_nil, fun x hx => absurd hx List.not_mem_nil, Nat.zero_le _, Nat.zero_le _⟩
  exact ⟨⟨h, h, h⟩, ⟨h, h, h⟩, ⟨h, h, h⟩⟩
theorem Tn_tlAt {k : Nat} {tris : List TL} (ht : ∀ t, t ∈ tris → Tn k t) (i : Nat) : Tn k (tlAt tris i) := by
  unfold tlAt
  cases h : tris[i]? with
  | none => exact Tn_tl0
  | some t => exact ht t (List.mem_of_getElem? h)
end Go.K
namespace Go.K.S
open Go Go.K
set_option maxHeartbeats 8000000
set_option maxRecDepth 20000
set_option linter.unusedVariables false
set_option linter.unusedSimpArgs false
theorem midS_n {k : Nat} {b : BL} (h : Bn k b) (hk : 0 < k) : Vn (k + k + 1) (midS b) :=
  Vn_cV ⟨Qn_add (Qn_rv h.lo.x hk) (Qn_rv h.hi.x hk), Qn_add (Qn_rv h.lo.y hk) (Qn_rv h.hi.y hk), Qn_add (Qn_rv h.lo.z hk) (Qn_rv h.hi.z hk)⟩
theorem build_good {tris : List TL} {TD : List D} {k : Nat} (hT : ∀ (i : Nat) t, tris[i]? = some t → Ω .sget TD i = some (.agg (dT Ψ t))) (hTl : Ω .slen TD = tris.length) (hn : tris.length ≤ 4096)
    (ht : ∀ t, t ∈ tris → Tn k t) (hk : 0 < k) (hk2 : k < 60000000) :
    Good P F.bvh_Build [.d (.sl TD)] [] (.tup [.d (.agg [.sl (nodesD (buildS tris).nodes), .sl (oD (buildS tris).order)]), .d (.i .i64 0)]) [] := by
  refine G.bvh_Build fun C C2 hC hC2 => ?_
  have hm : ∀ i, Vn (k + k + 1) (midT tris i) := fun i => midS_n (bxT_n (Tn_tlAt ht i) hk) hk
  have gn : 0 < tris.length → Good P F.P_bvh_builder_node [.ptr 0 0, .d (.i .i64 0), .d (.i .i64 (Ω .ci tris.length))] [.var (bcell Ψ (.own 1 22) (.own 2 1) (.own 3 9) TD), .row true T.api_Node 22 (nodesD []), .row true T.int 1 (oD (List.range tris.length)), .row true T.api_Vec 9 (Ψ .dVs ((List.range tris.length).map (midT tris)))]
      (.d (.i .i64 0)) [.var (bcell Ψ (.own 4 22) (.own 2 1) (.own 3 9) TD), .dead, .row true T.int 1 (oD (buildS tris).order), .row true T.api_Vec 9 (Ψ .dVs ((List.range tris.length).map (midT tris))), .row true T.api_Node 22 (nodesD (buildS tris).nodes)] := fun h =>
    bnode_good hT (fun i hi => by rw [sget_dVs]; simp [hi]) (fun t h => (ht t h).mono (by omega)) hm (by omega) (by omega) tris.length 0 tris.length ⟨[], List.range tris.length⟩ (Nat.le_refl _) h (by simp) List.nodup_range (fun i hi => by simpa using hi) (by simp; omega) (by simp; omega)
  have hb0 : tris.length = 0 → buildS tris = ⟨[], []⟩ := fun h => by
    have : tris = [] := List.eq_nil_of_length_eq_zero h
    subst this; rfl
  generalize buildS tris = R at *
  have hoF := oD_ok
  have hnF := nodesD_ok
  have hst : ∀ j, Ω .scat (oD (List.range j)) [.i .i64 (Ω .ci j)] = oD (List.range (j + 1)) := fun j => by rw [hoF.cat, List.range_succ]
  have hsm : ∀ j, Ω .scat (Ψ .dVs ((List.range j).map (midT tris))) [.agg (dV Ψ (midT tris j))] = Ψ .dVs ((List.range (j + 1)).map (midT tris)) := fun j => by
    rw [List.range_succ, List.map_append, ← scat_dVs]; rfl
  have hsl : ∀ j, ((List.range j).map (midT tris)).length = j := fun j => by simp
  have hol : ∀ j, Ω .slen (oD (List.range j)) = j := fun j => by rw [hoF.len]; simp
  have z1 : oD (List.range 0) = [] := rfl
  have z2 : (List.range 0).map (midT tris) = [] := rfl
  have z3 : nodesD [] = [] := rfl
  have z4 : oD [] = [] := rfl
  obtain ⟨A, hA⟩ : ∃ A : Nat → List VL, A = fun j => (List.range j).map (midT tris) := ⟨_, rfl⟩
  have eA : ∀ j, (List.range j).map (midT tris) = A j := fun j => by rw [hA]
  obtain ⟨O, hO⟩ : ∃ O : Nat → List D, O = fun j => oD (List.range j) := ⟨_, rfl⟩
  have eO : ∀ j, oD (List.range j) = O j := fun j => by rw [hO]
  simp only [eA, eO] at gn hst hsm hsl hol z1 z2
  clear eA hA eO hO
  have hel : ∀ j, j < tris.length → ∃ t : TL, ∃ B : BL, Ω .sget TD j = some (.agg (dT Ψ t)) ∧ Good P F.bvh_around [.d (.agg (dT Ψ t))] [] (.d (.agg (dB Ψ B))) [] ∧ midT tris j = midS B ∧ Bn k B := fun j hj => by
    obtain ⟨t, htr⟩ : ∃ t, tris[j]? = some t := ⟨_, List.getElem?_eq_getElem hj⟩
    have htn := ht t (List.mem_of_getElem? htr)
    refine ⟨t, bxT t, hT _ _ htr, taround_good t htn hk (by omega), ?_, bxT_n htn hk⟩
    unfold midT tlAt
    rw [htr]; rfl
  generalize oD = OO at *
  generalize nodesD = N at *
  generalize tris.length = n at *
  have q0 : Ω .lt 4096 (Ω .ci n) = false := by simp only [wz]; omega
  refine rq ?_
  rw [hTl]
  refine rq ?_
  rw [hTl]
  refine LoopG.introB (σ := Nat) [.cell 1302 0 900001 T.api_Node 22, .cell 1302 1 900002 T.int 1, .cell 1302 3 900003 T.api_Vec 9] [0, 2, 4, 15, 16, 17] [1050, 1051, 1052, 1053, 1054]
    (fun i => [.d (.sl TD), .ptr 1050 0, .ptr 1051 0, .d (.sl TD), .d (.i .i64 (Ω .ci n)), .d (.i .i64 (Ω .ci i))])
    (fun i => [.var [.nil, .nil], .var (bcell Ψ (.own 1052 22) (.own 1053 1) (.own 1054 9) TD), .row true T.api_Node 22 (N []), .row true T.int 1 (O i), .row true T.api_Vec 9 (Ψ .dVs (A i))])
    (fun i => i ≤ n)
    (fun i => n - i) 0 [1000, 1302, 900001, 900002, 900003] (Nat.zero_le _) ⟨rfl, rfl, (by rw [z1, z2, z3]; rfl)⟩ ?_
  intro j hj
  have hl1 := hsl j
  have hl2 := hol j
  rcases Nat.lt_or_ge j n with hlt | hge
  · obtain ⟨t, B, h1, h2, h3, h4⟩ := hel j hlt
    have hq : Ω .lt (Ω .ci j) (Ω .ci n) = true := by simp only [wz]; omega
    have s1 := hst j
    have s2 := hsm j
    rw [h3] at s2
    have gx := sum2_good B.lo.x B.hi.x h4.lo.x h4.hi.x hk (by omega)
    have gy := sum2_good B.lo.y B.hi.y h4.lo.y h4.hi.y hk (by omega)
    have gz := sum2_good B.lo.z B.hi.z h4.lo.z h4.hi.z hk (by omega)
    have ex : Ψ .cr (rv B.lo.x + rv B.hi.x) = (midS B).x := rfl
    have ey : Ψ .cr (rv B.lo.y + rv B.hi.y) = (midS B).y := rfl
    have ez : Ψ .cr (rv B.lo.z + rv B.hi.z) = (midS B).z := rfl
    rw [ex] at gx
    rw [ey] at gy
    rw [ez] at gz
    generalize midS B = M at *
    refine rq ?_
    refine ⟨j + 1, [1050, 1051, 1052, 1708, 1931], hlt, by omega, rfl, ?_, ?_⟩
    · refine Eq.trans (b := [.d (.sl TD), .ptr 1050 0, .ptr 1051 0, .d (.sl TD), .d (.i .i64 (Ω .ci n)), .d (.i .i64 _)]) rfl ?_
      rw [wrap_succ (by omega)]
    · rw [← s1, ← s2]
      rfl
  · obtain rfl : j = n := by omega
    have hq : Ω .lt (Ω .ci j) (Ω .ci j) = false := by simp only [wz]; omega
    by_cases h0 : j = 0
    · rw [hb0 h0]
      subst h0
      have e1 : N [] = [] := z3
      have e2 : OO [] = [] := z4
      have q2 : Ω .lt 0 (Ω .ci 0) = false := by simp only [wz]; omega
      simp only
      rw [z3, z4]
      refine rq ?_
      rw [hTl]
      refine rq ?_
      rw [z1]
    · have g := gn (by omega)
      have q2 : Ω .lt 0 (Ω .ci j) = true := by simp only [wz]; omega
      obtain ⟨rn, ro⟩ := R
      simp only at g ⊢
      refine rq ?_
      rw [hTl]
      refine rq ?_
      rw [hTl]
      exact rq trivial
end Go.K.S
end
section
/-
  Contracts: what a ray meets first by the tree that is built; what stands between.
-/
namespace Go.K
open Go Go.K.S
set_option linter.unusedVariables false
theorem joinT_n {tris : List TL} {k : Nat} (ht : ∀ t, t ∈ tris → Tn k t) (hk : 0 < k) (l : List Nat) : Bn k (joinT tris l) := Bn_cB (Bq_joins hk _ (fun b hb => by
  obtain ⟨i, hi, rfl⟩ := List.mem_map.1 hb
  exact bxT_n (Tn_tlAt ht i) hk))
theorem nodeS_bn {m : Nat → VL} {tris : List TL} {k : Nat} (ht : ∀ t, t ∈ tris → Tn k t) (hk : 0 < k) : ∀ (g f c : Nat) (s : BS), (∀ n, n ∈ s.nodes → Bn k n.box) → ∀ n, n ∈ (nodeS m tris g f c s).nodes → Bn k n.box
  | 0, f, c, s, h => h
  | g + 1, f, c, s, h => by
    have h1 : ∀ x : NodeL, x.box = joinT tris ((s.order.drop f).take c) → Bn k x.box := fun x e => by rw [e]; exact joinT_n ht hk _
    rw [nodeS]
    split
    · intro n hn
      rcases List.mem_append.1 hn with hn | hn
      · exact h n hn
      · rw [List.mem_singleton.1 hn]; exact h1 _ rfl
    · intro n hn
      rcases List.mem_or_eq_of_mem_set hn with hn | hn
      · refine nodeS_bn ht hk g _ _ _ (nodeS_bn ht hk g _ _ _ ?_) n hn
        intro x hx
        rcases List.mem_append.1 hx with hx | hx
        · exact h x hx
        · rw [List.mem_singleton.1 hx]; exact h1 _ rfl
      · rw [hn]; exact h1 _ rfl
end Go.K
namespace Go.K.S
open Go Go.K
set_option maxHeartbeats 8000000
set_option maxRecDepth 20000
set_option linter.unusedVariables false
set_option linter.unusedSimpArgs false
theorem nearest_build {tris : List TL} {TD : List D} (T' : TriH tris TD) (o d : VL) {k : Nat} (ho : Vn k o) (hd : Vn k d) (ht : ∀ t, t ∈ tris → Tn k t) (hk : 0 < k) (hk2 : k < 134217728) (hn : tris.length ≤ 4096) :
      Good P F.trace_Nearest [.d (.agg [.sl (nodesD (buildS tris).nodes), .sl (oD (buildS tris).order)]), .d (.sl TD), .d (.agg (dV Ψ o)), .d (.agg (dV Ψ d))] []
        (.tup [.d (.i .i64 (firstS o d tris).best), .d (.agg (dM Ψ (Ψ .cM (firstS o d tris).m))), .d (.b (decide (0 ≤ (firstS o d tris).best)))]) [] := by
  rcases Nat.eq_zero_or_pos tris.length with h0 | h0
  · have : tris = [] := List.eq_nil_of_length_eq_zero h0
    subst this
    exact nearest_none o d
  · obtain ⟨t, h⟩ := nodeS_ok (m := midT tris) (tris := tris) tris.length 0 tris.length ⟨[], List.range tris.length⟩ (Nat.le_refl _) h0 (by simp) List.nodup_range
    have hb := nodeS_bn (m := midT tris) ht hk tris.length 0 tris.length ⟨[], List.range tris.length⟩ (fun n hn => absurd hn List.not_mem_nil)
    change NodeOk tris 0 tris.length _ (buildS tris) t at h
    change ∀ n, n ∈ (buildS tris).nodes → _ at hb
    have hp : (buildS tris).order.Perm (List.range tris.length) := nodup_of_parts h.len h.perm h.out
    have hl := hp.length_eq
    rw [List.length_range] at hl
    have hm := h.more
    have g := nearest_good (order := (buildS tris).order) (OD := oD (buildS tris).order) (nodes := (buildS tris).nodes) (ND := nodesD (buildS tris).nodes) (TD := TD)
      ⟨oD_ok.get _, oD_ok.len _, fun i hi => List.mem_range.1 (hp.mem_iff.1 hi), T'.t, T'.tl, by omega, by omega⟩ ⟨nodesD_ok.get _, nodesD_ok.len _, by simp only [List.length_nil] at hm; omega⟩ o d ho hd ht hb hk hk2 t h.fit h.ix
    rw [near_first h.held (fun j => by rw [h.set]; simp)] at g
    exact g
theorem blocked_of {tris : List TL} {TD ND OD : List D} (p q : VL) {k : Nat} (hp : Vn k p) (hq : Vn k q) (ht : ∀ t, t ∈ tris → Tn k t) (hk : 0 < k) (hk2 : k < 33554432) (hn : tris.length < 1099511627776)
    (g1 : Good P F.trace_Nearest [.d (.agg [.sl ND, .sl OD]), .d (.sl TD), .d (.agg (dV Ψ p)), .d (.agg (dV Ψ (Ψ .cV (vsub (vv q) (vv p)))))] []
        (.tup [.d (.i .i64 (firstS p (Ψ .cV (vsub (vv q) (vv p))) tris).best), .d (.agg (dM Ψ (Ψ .cM (firstS p (Ψ .cV (vsub (vv q) (vv p))) tris).m))), .d (.b (decide (0 ≤ (firstS p (Ψ .cV (vsub (vv q) (vv p))) tris).best)))]) []) :
      Good P F.trace_Blocked [.d (.agg [.sl ND, .sl OD]), .d (.sl TD), .d (.agg (dV Ψ p)), .d (.agg (dV Ψ q))] []
        (.d (.b (decide (0 ≤ (firstS p (Ψ .cV (vsub (vv q) (vv p))) tris).best) && decide ((firstS p (Ψ .cV (vsub (vv q) (vv p))) tris).m.s < 1)))) [] := by
  refine G.trace_Blocked fun C C2 hC hC2 => ?_
  have g0 := vsub_good q p hq hp hk (by omega)
  have pd := (Pn_sub (Pn_vv hq hk) (Pn_vv hp hk)).mono (show _ ≤ 3 * k by omega)
  have g2 := of11_good
  have ok := first_ok (o := p) (d := Ψ .cV (vsub (vv q) (vv p))) (k := 3 * k) (hp.mono (by omega)) (Vn_cV pd) (fun t h => (ht t h).mono (by omega)) (by omega) hn
  have g3 := rcmp_good (Ψ .cr (firstS p (Ψ .cV (vsub (vv q) (vv p))) tris).m.s) (Ψ .cr 1) (Rn_cr.2 ok.s) (Rn_cr.2 (Qn_one (k := 1) (by omega))) (by omega) (by omega)
  rw [rv_cr, rv_cr] at g3
  clear ok pd
  generalize firstS p (Ψ .cV (vsub (vv q) (vv p))) tris = r at *
  have z := @cI_neg r.m.s 1
  generalize Ψ .cI r.m.s 1 = i at *
  generalize Ψ .cV (vsub (vv q) (vv p)) = dd at *
  by_cases h0 : 0 ≤ r.best
  · rw [decide_eq_true h0] at g1 ⊢
    rw [Bool.true_and]
    by_cases h1 : r.m.s < 1
    · rw [decide_eq_true h1]
      have h1' := lt_true.2 (z.2 h1)
      exact rk trivial
    · rw [decide_eq_false h1]
      have h1' := lt_false.2 (Int.not_lt.1 (mt z.1 h1))
      exact rk trivial
  · rw [decide_eq_false h0] at g1 ⊢
    rw [Bool.false_and]
    exact rk trivial
end Go.K.S
end
section
/-
  The law TraceTrees, as a contract.
-/
namespace Go.K.S
open Go Go.K
set_option maxHeartbeats 8000000
set_option maxRecDepth 20000
set_option linter.unusedVariables false
set_option linter.unusedSimpArgs false

theorem traceTrees_good (l : List TL) (o d : VL) (hl : l.length ≤ 1048576 ∧ ∀ t, t ∈ l → Tn 1048576 t) (ho : Vn 1048576 o) (hd : Vn 1048576 d) :
    Good P F.penumbralaw12_TraceTrees [.d (.sl (l.map fun t => .agg (dT Ψ t))), .d (.agg (dV Ψ o)), .d (.agg (dV Ψ d))] [] (.d (.b true)) [] := by
  refine G.penumbralaw12_TraceTrees fun C C2 hC hC2 => ?_
  obtain ⟨hln, hl⟩ := hl
  have gf := fixed12_good
  have T1 := triH_of (tris := l) (by omega)
  obtain ⟨TD, hTD⟩ : ∃ TD, TD = l.map fun t => (.agg (dT Ψ t) : D) := ⟨_, rfl⟩
  rw [← hTD] at T1 ⊢
  have tl := T1.tl
  by_cases h60 : 60 < l.length
  · have q : Ω .lt 60 (Ω .ci (Ω .slen TD)) = true := by rw [tl]; simp only [wz]; omega
    exact rk trivial
  have q : Ω .lt 60 (Ω .ci (Ω .slen TD)) = false := by rw [tl]; simp only [wz]; omega
  have gb := build_good (tris := l) (TD := TD) T1.t tl (by omega) hl (by omega) (by omega)
  have gt1 := tree_good T1 hl (by omega) (by omega)
  have gn1 := nearest_all T1 o d ho hd hl (by omega) (by omega)
  have gn2 := nearest_build T1 o d ho hd hl (by omega) (by omega) (by omega)
  have gs := vsum_good [o, d] (k := 1048576) (fun r h => by rcases mem2 h with rfl | rfl <;> assumption) (by omega) (by simp only [List.length_cons, List.length_nil]; omega)
  have es : Ψ .dVs [o, d] = [.agg (dV Ψ o), .agg (dV Ψ d)] := rfl
  rw [es] at gs
  have hq : Vn (3 * 1048576) (Ψ .cV (vsum [o, d])) := by
    rw [vsum2]
    exact Vn_cV ((Pn_add (Pn_vv ho (by omega)) (Pn_vv hd (by omega))).mono (by omega))
  obtain ⟨qq, hqq⟩ : ∃ qq, qq = Ψ .cV (vsum [o, d]) := ⟨_, rfl⟩
  rw [← hqq] at gs hq
  have hl3 : ∀ t, t ∈ l → Tn (3 * 1048576) t := fun t h => (hl t h).mono (by omega)
  have hl9 : ∀ t, t ∈ l → Tn (9 * 1048576) t := fun t h => (hl t h).mono (by omega)
  have pd := (Pn_sub (Pn_vv hq (by omega)) (Pn_vv (ho.mono (show 1048576 ≤ 3 * 1048576 by omega)) (by omega))).mono (show _ ≤ 9 * 1048576 by omega)
  have gm1 := nearest_all T1 o (Ψ .cV (vsub (vv qq) (vv o))) (k := 9 * 1048576) (ho.mono (by omega)) (Vn_cV pd) hl9 (by omega) (by omega)
  have gm2 := nearest_build T1 o (Ψ .cV (vsub (vv qq) (vv o))) (k := 9 * 1048576) (ho.mono (by omega)) (Vn_cV pd) hl9 (by omega) (by omega) (by omega)
  have gk1 := blocked_of o qq (k := 3 * 1048576) (ho.mono (by omega)) hq hl3 (by omega) (by omega) (by omega) gm1
  have gk2 := blocked_of o qq (k := 3 * 1048576) (ho.mono (by omega)) hq hl3 (by omega) (by omega) (by omega) gm2
  clear gm1 gm2
  have hM : Mn (60 * 1048576 + 60) (Ψ .cM (firstS o d l).m) := by
    rcases first_cases o d l with e | ⟨i, hi, hb, hh⟩
    · rw [e]
      exact ⟨Rn_cr.2 (Qn_zero (by omega)), Rn_cr.2 (Qn_zero (by omega)), Rn_cr.2 (Qn_zero (by omega))⟩
    · exact Mn_hit ho hd hl (by omega) hh
  have gis := is8_good (Ψ .cM (firstS o d l).m) (Ψ .cM (firstS o d l).m) hM hM (by omega) (by omega)
  rw [decide_eq_true rfl] at gis
  generalize nodesD (treeN l l.length) = N1 at *
  generalize orderD l.length = O1 at *
  generalize nodesD (buildS l).nodes = N2 at *
  generalize oD (buildS l).order = O2 at *
  generalize Ψ .cM (firstS o d l).m = M at *
  generalize (firstS o d l).best = best at *
  generalize decide (0 ≤ best) = ok at *
  generalize (decide (0 ≤ (firstS o (Ψ .cV (vsub (vv qq) (vv o))) l).best) && decide ((firstS o (Ψ .cV (vsub (vv qq) (vv o))) l).m.s < 1)) = blk at *
  have q1 : Ω .eq best best = true := eq_true'.2 rfl
  cases ok <;> cases blk <;> exact rk trivial
end Go.K.S
end
