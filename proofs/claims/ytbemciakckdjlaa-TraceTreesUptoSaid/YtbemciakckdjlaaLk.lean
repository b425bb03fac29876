/-
  Parts of the proof, joined by a program of this work: KAuto2, KTrace, KTrace2, KTrace3, KTreeR, KLawTraceQ, KTrace4, KLawTraceMore.
-/
import Derived.Test.YtbemciakckdjlaaLi
import Derived.Test.YtbemciakckdjlaaLj
section
/-
  A reckoning that passes calls (such as are handed blocks, too), elements and questions by what is at hand.
-/
namespace Go.K
set_option linter.unusedVariables false
/-- a reckoning goes on; calls by contracts that are at hand, elements that are at hand, and questions that are known, are passed -/
theorem rk {P Q : Prop} (q : Q) (h : Hid Q → P := by
  intro q; (generalize hΩ : Ω = ω, hΨ : Ψ = ψ; cbv <;> subst hΩ hΨ <;> try simp only [lits, true_and, Int.reduceAdd, Int.reduceSub, Int.reduceMul, not_u32, slen_nil, tn_ci, tn_zero, slen_lims, slen_dRs, slen_dVs, slen_dBs])
  (repeat (
    first
      | refine ⟨_, hC _ _ _ (by assumption), ?_⟩
      | refine ⟨_, _, hC2 _ _ _ _ _ (by assumption), ?_⟩
      | refine ⟨ci_nonneg _, _, (by assumption), rfl, ?_⟩
      | refine ⟨_, (by assumption), rfl, ?_⟩
      | refine ⟨ci_nonneg _, (by simp only [wz, slen_scat]; omega), _, (by assumption), (by first | exact Nat.le_refl _ | (simp; done)), rfl, ?_⟩
      | refine ⟨(by first | exact fun u h => by rw [List.mem_singleton.1 h]; rfl | exact cells_dRs _ | assumption), (by simp only [wz, slen_scat]; omega), ?_⟩
      | refine BrG.yes (by first | assumption | decide) ?_
      | refine BrG.no (by first | assumption | decide) ?_
    (generalize hΩ : Ω = ω, hΨ : Ψ = ψ; cbv <;> subst hΩ hΨ <;> try simp only [lits, true_and, Int.reduceAdd, Int.reduceSub, Int.reduceMul, not_u32, slen_nil, tn_ci, tn_zero, slen_lims, slen_dRs, slen_dVs, slen_dBs])))
  all_goals with_reducible exact q.out) : P := h ⟨q⟩
end Go.K
end
section
/-
  Contracts: the way of a ray through a tree of boxes.
-/
namespace Go.K
open Go
set_option linter.unusedVariables false
structure NodeL where
  box : BL
  left : Int
  right : Int
  from' : Int
  count : Int
def dNode (Ψ : (t : Sd) → STy t) (n : NodeL) : List D := dB Ψ n.box ++ [.i .i64 n.left, .i .i64 n.right, .i .i64 n.from', .i .i64 n.count]
/-- a walker's cells -/
def wc (Ψ : (t : Sd) → STy t) (ND OD TD : List D) (o d : VL) (best : Int) (m : ML) : List V :=
  V.d (.sl ND) :: V.d (.sl OD) :: V.d (.sl TD) :: ((dV Ψ o).map V.d ++ (dV Ψ d).map V.d ++ [V.d (.i .i64 best), V.own 1 1] ++ (dM Ψ m).map V.d)
end Go.K
namespace Go.K.S
open Go Go.K
set_option maxHeartbeats 8000000
set_option maxRecDepth 20000
set_option linter.unusedVariables false
set_option linter.unusedSimpArgs false

theorem past_good {ND OD TD S : List D} (o d : VL) (best : Int) (m : ML) (s : RL) {k : Nat} (hm : Rn k m.s) (hs : Rn k s) (hk : k < 68719476736) :
    Good P F.P_trace_walker_past [.ptr 0 0, .agg ((dR Ψ s).map V.d)] [.var (wc Ψ ND OD TD o d best m), .row true T.bool 1 S] (.d (.b (decide (0 ≤ best) && decide (rv m.s < rv s)))) [.var (wc Ψ ND OD TD o d best m), .row true T.bool 1 S] := by
  refine G.P_trace_walker_past (hb := of_decide_eq_true rfl) fun C C2 hC hC2 => ?_
  have g := rcmp_good s m.s hs hm hk hk
  have z := @cI_pos (rv s) (rv m.s)
  generalize Ψ .cI (rv s) (rv m.s) = i at *
  by_cases h0 : 0 ≤ best
  · rw [decide_eq_true h0, Bool.true_and]
    have h0' := le_true.2 h0
    by_cases h1 : rv m.s < rv s
    · rw [decide_eq_true h1]
      have h1' := lt_true.2 (z.2 h1)
      refine rk ?_
      exact ⟨[], rfl, rfl, rfl⟩
    · rw [decide_eq_false h1]
      have h1' := lt_false.2 (Int.not_lt.1 (mt z.1 h1))
      refine rk ?_
      exact ⟨[], rfl, rfl, rfl⟩
  · rw [decide_eq_false h0, Bool.false_and]
    have h0' := le_false.2 (Int.not_le.1 h0)
    refine rk ?_
    exact ⟨[], rfl, rfl, rfl⟩
end Go.K.S
namespace Go.K
/-- what a walker has met so far -/
structure WS where
  best : Int
  m : M3
def takeS (h : Option M3) (i : Nat) (st : WS) : WS := match h with
  | none => st
  | some m => if 0 ≤ st.best ∧ (st.m.s < m.s ∨ (m.s = st.m.s ∧ st.best < (i : Int))) then st else ⟨i, m⟩
def leafS (h : Nat → Option M3) (l : List Nat) (st : WS) : WS := l.foldl (fun st i => takeS (h i) i st) st
theorem leafS_snoc (h : Nat → Option M3) (l : List Nat) (i : Nat) (st : WS) : leafS h (l ++ [i]) st = takeS (h i) i (leafS h l st) := by simp [leafS]
/-- what a walker's lists hold -/
structure WalkH (order : List Nat) (tris : List TL) (OD TD : List D) : Prop where
  o : ∀ (j i : Nat), order[j]? = some i → Ω .sget OD j = some (.i .i64 (Ω .ci i))
  ol : Ω .slen OD = order.length
  ov : ∀ i, i ∈ order → i < tris.length
  t : ∀ (i : Nat) t, tris[i]? = some t → Ω .sget TD i = some (.agg (dT Ψ t))
  tl : Ω .slen TD = tris.length
  os : order.length < 1099511627776
  ts : tris.length < 1099511627776
def hitAt (o d : VL) (tris : List TL) (i : Nat) : Option M3 := match tris[i]? with
  | some t => hitS (vv o) (vv d) (tv t)
  | none => none
structure WOk (k : Nat) (st : WS) : Prop where
  s : Qn k st.m.s
  b1 : -1 ≤ st.best
  b2 : st.best < 1099511627776
end Go.K
namespace Go.K.S
open Go Go.K
set_option maxHeartbeats 8000000
set_option maxRecDepth 20000
set_option linter.unusedVariables false
set_option linter.unusedSimpArgs false
theorem leaf_good {order : List Nat} {tris : List TL} {ND OD TD S : List D} (W : WalkH order tris OD TD) (o d : VL) (n : NodeL) (st : WS) (f c : Nat) {k : Nat} (hf : n.from' = Ω .ci f) (hc : n.count = Ω .ci c) (hfc : f + c ≤ order.length)
    (ho : Vn k o) (hd : Vn k d) (ht : ∀ t, t ∈ tris → Tn k t) (hk : 0 < k) (hk2 : k < 134217728) (hst : WOk (60 * k + 60) st) :
    Good P F.P_trace_walker_leaf [.ptr 0 0, .agg ((dNode Ψ n).map V.d)] [.var (wc Ψ ND OD TD o d st.best (Ψ .cM st.m)), .row true T.bool 1 S] (.tup [])
      [.var (wc Ψ ND OD TD o d (leafS (hitAt o d tris) ((order.drop f).take c) st).best (Ψ .cM (leafS (hitAt o d tris) ((order.drop f).take c) st).m)), .row true T.bool 1 S] := by
  refine G.P_trace_walker_leaf (hb := of_decide_eq_true rfl) fun C C2 hC hC2 => ?_
  obtain ⟨A, hA⟩ : ∃ A : Nat → WS, A = fun i => leafS (hitAt o d tris) ((order.drop f).take i) st := ⟨_, rfl⟩
  have hA0 : A 0 = st := by rw [hA]; rfl
  have hAs : ∀ j i, j < c → order[f + j]? = some i → A (j + 1) = takeS (hitAt o d tris i) i (A j) := fun j i hj hi => by
    rw [hA]; simp only
    rw [take_succ_of (l := order.drop f) (i := j) (x := i) (by rw [List.getElem?_drop]; exact hi), leafS_snoc]
  have hAl : leafS (hitAt o d tris) ((order.drop f).take c) st = A c := by rw [hA]
  have hAq : ∀ j, j ≤ c → WOk (60 * k + 60) (A j) := fun j => by
    induction j with
    | zero => intro _; rw [hA0]; exact hst
    | succ j ih =>
      intro hj
      obtain ⟨i, hi⟩ : ∃ i, order[f + j]? = some i := ⟨_, List.getElem?_eq_getElem (by omega)⟩
      rw [hAs j i (by omega) hi]
      have ihj := ih (by omega)
      unfold takeS
      cases hh : hitAt o d tris i with
      | none => exact ihj
      | some m =>
        simp only
        split
        · exact ihj
        · unfold hitAt at hh
          cases htr : tris[i]? with
          | none => rw [htr] at hh; cases hh
          | some t =>
            rw [htr] at hh
            have hlt := (List.getElem?_eq_some_iff.1 htr).1
            have := W.ts
            exact ⟨(Qn_hit ho hd (ht t (List.mem_of_getElem? htr)) hk hh).1, by simp only; omega, by simp only; omega⟩
  rw [hAl]
  have hos := W.os
  have hts := W.ts
  obtain ⟨bx, nl, nr, nf, nc⟩ := n
  simp only at hf hc
  subst hf hc
  clear hAl hA
  refine rk ?_
  refine LoopG.intro (σ := Nat) [0, 3, 10, 11] [0, 1, 1050]
    (fun j => [.ptr 0 0, .ptr 1050 0, .d (.i .i64 (Ω .ci c)), .d (.i .i64 (Ω .ci j))])
    (fun j => [.var (wc Ψ ND OD TD o d (A j).best (Ψ .cM (A j).m)), .row true T.bool 1 S, .var ((dNode Ψ ⟨bx, nl, nr, Ω .ci f, Ω .ci c⟩).map V.d)])
    (fun j => j ≤ c)
    (fun j => c - j) 0 [0, 1, 1000] (Nat.zero_le _) ⟨rfl, rfl, by rw [hA0]; rfl⟩ ?_
  intro j hj
  rcases Nat.lt_or_ge j c with hlt | hge
  · obtain ⟨i, hi⟩ : ∃ i, order[f + j]? = some i := ⟨_, List.getElem?_eq_getElem (by omega)⟩
    have hil := W.ov i (List.mem_of_getElem? hi)
    obtain ⟨t, htr⟩ : ∃ t, tris[i]? = some t := ⟨_, List.getElem?_eq_getElem hil⟩
    have hq : Ω .lt (Ω .ci j) (Ω .ci c) = true := by simp only [wz]; omega
    have hst' := hAs j i hlt hi
    have ok := hAq j hj
    have hw : Ω .wrap .i64 (Ω .ci f + Ω .ci j) = Ω .ci (f + j) := by rw [wrap_add (by omega)]
    have e1 := W.o _ _ hi
    have e2 := W.t _ _ htr
    have q1 : Ω .lt (Ω .ci (f + j)) 0 = false := by simp only [wz]; omega
    have q2 : Ω .le (Ω .ci (Ω .slen OD)) (Ω .ci (f + j)) = false := by rw [W.ol]; simp only [wz]; omega
    have q3 : Ω .lt (Ω .ci i) 0 = false := by simp only [wz]; omega
    have q4 : Ω .le (Ω .ci (Ω .slen TD)) (Ω .ci i) = false := by rw [W.tl]; simp only [wz]; omega
    have gh := hit_good o d t ho hd (ht t (List.mem_of_getElem? htr)) hk hk2
    have hh : hitAt o d tris i = hitS (vv o) (vv d) (tv t) := by unfold hitAt; rw [htr]
    rw [hh] at hst'
    generalize A j = a at *
    cases hS : hitS (vv o) (vv d) (tv t) with
    | none =>
      rw [hS] at hst'
      have h1 : hitOk (vv o) (vv d) (tv t) = false := by unfold hitOk; rw [hS]; rfl
      rw [h1] at gh
      generalize hitM (vv o) (vv d) (tv t) = m at *
      refine rk ?_
      rw [hw]
      refine rk ?_
      refine ⟨j + 1, [0, 1, 1050], hlt, by omega, rfl, ?_, ?_⟩
      · refine Eq.trans (b := [.ptr 0 0, .ptr 1050 0, .d (.i .i64 (Ω .ci c)), .d (.i .i64 _)]) rfl ?_
        rw [wrap_succ (by omega)]
      · rw [hst']; rfl
    | some m =>
      rw [hS] at hst'
      have h1 : hitOk (vv o) (vv d) (tv t) = true := by unfold hitOk; rw [hS]; rfl
      have h2 : hitM (vv o) (vv d) (tv t) = m := by unfold hitM; rw [hS]; rfl
      rw [h1, h2] at gh
      have qm := (Qn_hit ho hd (ht t (List.mem_of_getElem? htr)) hk hS).1
      have gp := past_good (ND := ND) (OD := OD) (TD := TD) (S := S) o d a.best (Ψ .cM a.m) (Ψ .cr m.s) (Rn_cr.2 ok.s) (Rn_cr.2 qm) (by omega)
      have gsm := rsame_good (Ψ .cr m.s) (Ψ .cr a.m.s) (Rn_cr.2 qm) (Rn_cr.2 ok.s) (by omega) (by omega)
      rw [rv_cr] at gp
      rw [rv_cr, rv_cr] at gsm
      have e3 : rv (Ψ .cM a.m).s = a.m.s := rv_cr _
      rw [e3] at gp
      unfold takeS at hst'
      simp only at hst'
      obtain ⟨bst, mm⟩ := a
      simp only at *
      by_cases hb : 0 ≤ bst
      · have hb' := le_true.2 hb
        by_cases hc1 : mm.s < m.s
        · rw [if_pos ⟨hb, .inl hc1⟩] at hst'
          rw [decide_eq_true hb, decide_eq_true hc1] at gp
          refine rk ?_
          rw [hw]
          refine rk ?_
          refine ⟨j + 1, [0, 1, 1050], hlt, by omega, rfl, ?_, ?_⟩
          · refine Eq.trans (b := [.ptr 0 0, .ptr 1050 0, .d (.i .i64 (Ω .ci c)), .d (.i .i64 _)]) rfl ?_
            rw [wrap_succ (by omega)]
          · rw [hst']; rfl
        · rw [decide_eq_true hb, decide_eq_false hc1] at gp
          by_cases hc2 : m.s = mm.s
          · rw [decide_eq_true hc2] at gsm
            by_cases hc3 : bst < (i : Int)
            · rw [if_pos ⟨hb, .inr ⟨hc2, hc3⟩⟩] at hst'
              have hc3' : Ω .lt bst (Ω .ci i) = true := lt_true.2 hc3
              refine rk ?_
              rw [hw]
              refine rk ?_
              refine ⟨j + 1, [0, 1, 1050], hlt, by omega, rfl, ?_, ?_⟩
              · refine Eq.trans (b := [.ptr 0 0, .ptr 1050 0, .d (.i .i64 (Ω .ci c)), .d (.i .i64 _)]) rfl ?_
                rw [wrap_succ (by omega)]
              · rw [hst']; rfl
            · rw [if_neg (fun q => q.2.elim hc1 fun q => hc3 q.2)] at hst'
              have hc3' : Ω .lt bst (Ω .ci i) = false := lt_false.2 (Int.not_lt.1 hc3)
              refine rk ?_
              rw [hw]
              refine rk ?_
              refine ⟨j + 1, [0, 1, 1050], hlt, by omega, rfl, ?_, ?_⟩
              · refine Eq.trans (b := [.ptr 0 0, .ptr 1050 0, .d (.i .i64 (Ω .ci c)), .d (.i .i64 _)]) rfl ?_
                rw [wrap_succ (by omega)]
              · rw [hst']; rfl
          · rw [decide_eq_false hc2] at gsm
            rw [if_neg (fun q => q.2.elim hc1 fun q => hc2 q.1)] at hst'
            refine rk ?_
            rw [hw]
            refine rk ?_
            refine ⟨j + 1, [0, 1, 1050], hlt, by omega, rfl, ?_, ?_⟩
            · refine Eq.trans (b := [.ptr 0 0, .ptr 1050 0, .d (.i .i64 (Ω .ci c)), .d (.i .i64 _)]) rfl ?_
              rw [wrap_succ (by omega)]
            · rw [hst']; rfl
      · have hb' := le_false.2 (Int.not_le.1 hb)
        rw [decide_eq_false hb, Bool.false_and] at gp
        rw [if_neg (fun q => hb q.1)] at hst'
        refine rk ?_
        rw [hw]
        refine rk ?_
        refine ⟨j + 1, [0, 1, 1050], hlt, by omega, rfl, ?_, ?_⟩
        · refine Eq.trans (b := [.ptr 0 0, .ptr 1050 0, .d (.i .i64 (Ω .ci c)), .d (.i .i64 _)]) rfl ?_
          rw [wrap_succ (by omega)]
        · rw [hst']; rfl
  · have hq : Ω .lt (Ω .ci j) (Ω .ci c) = false := by simp only [wz]; omega
    obtain rfl : j = c := by omega
    generalize A j = a at *
    refine rk ?_
    exact ⟨[], rfl, rfl, rfl⟩
end Go.K.S
end
section
/-
  Contracts: a node of a tree of boxes, and what a ray meets first.
-/
namespace Go.K
open Go Go.K.S
set_option linter.unusedVariables false
/-- a tree, as its nodes stand -/
inductive TR where
  | leaf (i : Nat) (n : NodeL) (f c : Nat)
  | inner (i : Nat) (n : NodeL) (l r : TR)
def TR.ix : TR → Nat
  | .leaf i _ _ _ => i
  | .inner i _ _ _ => i
def TR.fit (nodes : List NodeL) (order : List Nat) : TR → Nat → Prop
  | .leaf i n f c, e => nodes[i]? = some n ∧ n.from' = Ω .ci f ∧ n.count = Ω .ci c ∧ 0 < c ∧ f + c ≤ order.length ∧ e = i + 1
  | .inner i n l r, e => nodes[i]? = some n ∧ n.count = 0 ∧ n.left = Ω .ci l.ix ∧ n.right = Ω .ci r.ix ∧ l.ix = i + 1 ∧ l.fit nodes order r.ix ∧ r.fit nodes order e
theorem TR.fit_lt {nodes : List NodeL} {order : List Nat} : ∀ {t : TR} {e : Nat}, t.fit nodes order e → t.ix < e ∧ t.ix < nodes.length
  | .leaf i n f c, e, h => ⟨by rw [h.2.2.2.2.2]; exact Nat.lt_succ_self _, (List.getElem?_eq_some_iff.1 h.1).1⟩
  | .inner i n l r, e, h => by
    have h1 := TR.fit_lt h.2.2.2.2.2.1
    have h2 := TR.fit_lt h.2.2.2.2.2.2
    have h3 := h.2.2.2.2.1
    exact ⟨by simp only [TR.ix]; omega, (List.getElem?_eq_some_iff.1 h.1).1⟩
def missS (o d : VL) (n : NodeL) (st : WS) : Bool := !clipOk (vv o) (vv d) (bv n.box) || (decide (0 ≤ st.best) && decide (st.m.s < (clipS (vv o) (vv d) (bv n.box)).from'))
/-- the way of a ray through a tree: what is met, and which nodes were seen -/
def walk (o d : VL) (order : List Nat) (tris : List TL) : TR → WS × List Bool → WS × List Bool
  | .leaf i n f c, x => if missS o d n x.1 then (x.1, x.2.set i true) else (leafS (hitAt o d tris) ((order.drop f).take c) x.1, x.2.set i true)
  | .inner i n l r, x => if missS o d n x.1 then (x.1, x.2.set i true) else walk o d order tris r (walk o d order tris l (x.1, x.2.set i true))
theorem walk_len {o d : VL} {order : List Nat} {tris : List TL} : ∀ (t : TR) (x : WS × List Bool), (walk o d order tris t x).2.length = x.2.length
  | .leaf i n f c, x => by unfold walk; split <;> simp
  | .inner i n l r, x => by
    unfold walk; split
    · simp
    · rw [walk_len r, walk_len l]; simp
theorem walk_seen {o d : VL} {nodes : List NodeL} {order : List Nat} {tris : List TL} : ∀ (t : TR) {e : Nat} (x : WS × List Bool), t.fit nodes order e → ∀ j, j < t.ix ∨ e ≤ j → (walk o d order tris t x).2[j]? = x.2[j]?
  | .leaf i n f c, e, x, h, j, hj => by
    have := h.2.2.2.2.2
    simp only [TR.ix] at hj
    unfold walk; split <;> simp only <;> rw [List.getElem?_set_ne (by omega)]
  | .inner i n l r, e, x, h, j, hj => by
    have h1 := TR.fit_lt h.2.2.2.2.2.1
    have h2 := TR.fit_lt h.2.2.2.2.2.2
    have h3 := h.2.2.2.2.1
    simp only [TR.ix] at hj
    unfold walk; split
    · simp only; rw [List.getElem?_set_ne (by omega)]
    · rw [walk_seen r _ h.2.2.2.2.2.2 j (by omega), walk_seen l _ h.2.2.2.2.2.1 j (by omega)]
      simp only; rw [List.getElem?_set_ne (by omega)]
theorem leafS_ok {o d : VL} {tris : List TL} {k : Nat} (ho : Vn k o) (hd : Vn k d) (ht : ∀ t, t ∈ tris → Tn k t) (hk : 0 < k) (hts : tris.length < 1099511627776) : ∀ (l : List Nat) (st : WS), WOk (60 * k + 60) st → WOk (60 * k + 60) (leafS (hitAt o d tris) l st) := fun l => by
  induction l with
  | nil => intro st h; exact h
  | cons i l ih =>
    intro st h
    refine ih _ ?_
    show WOk _ (takeS (hitAt o d tris i) i st)
    unfold takeS
    cases hh : hitAt o d tris i with
    | none => exact h
    | some m =>
      simp only
      split
      · exact h
      · unfold hitAt at hh
        cases htr : tris[i]? with
        | none => rw [htr] at hh; cases hh
        | some t =>
          rw [htr] at hh
          have hlt := (List.getElem?_eq_some_iff.1 htr).1
          exact ⟨(Qn_hit ho hd (ht t (List.mem_of_getElem? htr)) hk hh).1, by simp only; omega, by simp only; omega⟩
theorem walk_ok {o d : VL} {order : List Nat} {tris : List TL} {k : Nat} (ho : Vn k o) (hd : Vn k d) (ht : ∀ t, t ∈ tris → Tn k t) (hk : 0 < k) (hts : tris.length < 1099511627776) : ∀ (t : TR) (x : WS × List Bool), WOk (60 * k + 60) x.1 → WOk (60 * k + 60) (walk o d order tris t x).1
  | .leaf i n f c, x, h => by
    unfold walk; split
    · exact h
    · exact leafS_ok ho hd ht hk hts _ _ h
  | .inner i n l r, x, h => by
    unfold walk; split
    · exact h
    · exact walk_ok ho hd ht hk hts r _ (walk_ok ho hd ht hk hts l _ h)
structure NodeH (nodes : List NodeL) (ND : List D) : Prop where
  n : ∀ (i : Nat) n, nodes[i]? = some n → Ω .sget ND i = some (.agg (dNode Ψ n))
  nl : Ω .slen ND = nodes.length
  ns : nodes.length < 1099511627776
theorem sset_b (s : List Bool) (i : Nat) : Ω .sset (s.map D.b) i (.b true) = (s.set i true).map D.b := by simp [w_sset, List.map_set]
end Go.K
namespace Go.K.S
open Go Go.K
set_option maxHeartbeats 8000000
set_option maxRecDepth 20000
set_option linter.unusedVariables false
set_option linter.unusedSimpArgs false
theorem node_good {nodes : List NodeL} {order : List Nat} {tris : List TL} {ND OD TD : List D} (W : WalkH order tris OD TD) (N : NodeH nodes ND) (o d : VL) {k : Nat}
    (ho : Vn k o) (hd : Vn k d) (ht : ∀ t, t ∈ tris → Tn k t) (hb : ∀ n, n ∈ nodes → Bn k n.box) (hk : 0 < k) (hk2 : k < 134217728) :
    ∀ (t : TR) (e : Nat), t.fit nodes order e → ∀ (st : WS) (s : List Bool), s.length = nodes.length → (∀ j, t.ix ≤ j → j < e → s[j]? = some false) → WOk (60 * k + 60) st →
      Good P F.P_trace_walker_node [.ptr 0 0, .d (.i .i64 (Ω .ci t.ix))] [.var (wc Ψ ND OD TD o d st.best (Ψ .cM st.m)), .row true T.bool 1 (s.map D.b)] (.tup [])
        [.var (wc Ψ ND OD TD o d (walk o d order tris t (st, s)).1.best (Ψ .cM (walk o d order tris t (st, s)).1.m)), .row true T.bool 1 ((walk o d order tris t (st, s)).2.map D.b)] := by
  intro t
  induction t with
  | leaf i n f c =>
    intro e hf st s hsl hun hok
    obtain ⟨h1, h2, h3, h4, h5, h6⟩ := hf
    refine G.P_trace_walker_node (hb := of_decide_eq_true rfl) fun C C2 hC hC2 => ?_
    have hbn := hb n (List.mem_of_getElem? h1)
    have hil := (List.getElem?_eq_some_iff.1 h1).1
    have nl := N.nl
    have ns := N.ns
    have e1 := N.n i n h1
    have hsi : s[i]? = some false := hun i (Nat.le_refl _) (by omega)
    have e2 : Ω .sget (s.map D.b) i = some (.b false) := by rw [w_sget, List.getElem?_map, hsi]; rfl
    have eset := sset_b s i
    have hSl : Ω .slen (s.map D.b) = nodes.length := by rw [w_slen, List.length_map, hsl]
    have q1 : Ω .lt (Ω .ci i) 0 = false := by simp only [wz]; omega
    have q2 : Ω .le (Ω .ci (Ω .slen ND)) (Ω .ci i) = false := by rw [nl]; simp only [wz]; omega
    have q3 : Ω .lt 0 (Ω .ci c) = true := by simp only [wz]; omega
    have gc := clip_good o d n.box ho hd hbn hk (by omega)
    have sn := Sn_clipS ho hd hbn hk
    have gp := fun S => past_good (ND := ND) (OD := OD) (TD := TD) (S := S) o d st.best (Ψ .cM st.m) (Ψ .cr (clipS (vv o) (vv d) (bv n.box)).from') (Rn_cr.2 hok.s) ((Rn_cr.2 sn.f).mono (show _ ≤ 60 * k + 60 by omega)) (by omega)
    have gl := fun S => leaf_good (ND := ND) (S := S) W o d n st f c h2 h3 h5 ho hd ht hk hk2 hok
    have e3 : rv (Ψ .cM st.m).s = st.m.s := rv_cr _
    simp only [rv_cr, e3] at gp
    simp only [TR.ix]
    unfold walk
    unfold missS
    simp only
    generalize leafS (hitAt o d tris) ((order.drop f).take c) st = st' at *
    generalize clipOk (vv o) (vv d) (bv n.box) = ok at *
    generalize clipS (vv o) (vv d) (bv n.box) = sp at *
    obtain ⟨S1, hS1⟩ : ∃ x, x = (s.set i true).map D.b := ⟨_, rfl⟩
    obtain ⟨S, hS⟩ : ∃ x, x = s.map D.b := ⟨_, rfl⟩
    rw [← hS, ← hS1] at eset
    rw [← hS] at e2 hSl ⊢
    obtain ⟨bx, nl', nr, nf, nc⟩ := n
    simp only at h2 h3 gl
    subst h3
    have gp1 := gp S1
    have gl1 := gl S1
    clear gp gl
    cases ok
    · simp only [Bool.not_false, Bool.true_or, if_true]
      rw [← hS1]
      refine rk ?_
      refine ⟨ci_nonneg _, (by simp only [wz]; omega), (by simp only [wz]; omega), ci_nonneg _, _, e1, rfl, ?_⟩
      rw [eset]
      refine rk ?_
      exact ⟨[], rfl, rfl, rfl⟩
    · simp only [Bool.not_true, Bool.false_or]
      generalize (decide (0 ≤ st.best) && decide (st.m.s < sp.from')) = pb at *
      cases pb
      · simp only [Bool.false_eq_true, if_false]
        rw [← hS1]
        refine rk ?_
        refine ⟨ci_nonneg _, (by simp only [wz]; omega), (by simp only [wz]; omega), ci_nonneg _, _, e1, rfl, ?_⟩
        rw [eset]
        refine rk ?_
        exact ⟨[], rfl, rfl, rfl⟩
      · simp only [if_true]
        rw [← hS1]
        refine rk ?_
        refine ⟨ci_nonneg _, (by simp only [wz]; omega), (by simp only [wz]; omega), ci_nonneg _, _, e1, rfl, ?_⟩
        rw [eset]
        refine rk ?_
        exact ⟨[], rfl, rfl, rfl⟩
  | inner i n l r ihl ihr =>
    intro e hf st s hsl hun hok
    obtain ⟨h1, h2, h3, h4, h5, h6, h7⟩ := hf
    have fl := TR.fit_lt h6
    have fr := TR.fit_lt h7
    refine G.P_trace_walker_node (hb := of_decide_eq_true rfl) fun C C2 hC hC2 => ?_
    have hbn := hb n (List.mem_of_getElem? h1)
    have hil := (List.getElem?_eq_some_iff.1 h1).1
    have nl := N.nl
    have ns := N.ns
    have e1 := N.n i n h1
    have hsi : s[i]? = some false := hun i (Nat.le_refl _) (by omega)
    have e2 : Ω .sget (s.map D.b) i = some (.b false) := by rw [w_sget, List.getElem?_map, hsi]; rfl
    have eset := sset_b s i
    have hSl : Ω .slen (s.map D.b) = nodes.length := by rw [w_slen, List.length_map, hsl]
    have q1 : Ω .lt (Ω .ci i) 0 = false := by simp only [wz]; omega
    have q2 : Ω .le (Ω .ci (Ω .slen ND)) (Ω .ci i) = false := by rw [nl]; simp only [wz]; omega
    have q3 : Ω .lt (Ω .ci i) (Ω .ci l.ix) = true := by simp only [wz]; omega
    have q4 : Ω .lt (Ω .ci i) (Ω .ci r.ix) = true := by simp only [wz]; omega
    have gc := clip_good o d n.box ho hd hbn hk (by omega)
    have sn := Sn_clipS ho hd hbn hk
    have gp := fun S => past_good (ND := ND) (OD := OD) (TD := TD) (S := S) o d st.best (Ψ .cM st.m) (Ψ .cr (clipS (vv o) (vv d) (bv n.box)).from') (Rn_cr.2 hok.s) ((Rn_cr.2 sn.f).mono (show _ ≤ 60 * k + 60 by omega)) (by omega)
    have e3 : rv (Ψ .cM st.m).s = st.m.s := rv_cr _
    simp only [rv_cr, e3] at gp
    have hun' : ∀ j, i < j → j < e → s[j]? = some false := fun j a b => hun j (by simp only [TR.ix]; omega) b
    have ga := ihl r.ix h6 st (s.set i true) (by simp [hsl]) (fun j a b => by rw [List.getElem?_set_ne (by omega)]; exact hun' j (by omega) (by omega)) hok
    have hok1 := walk_ok (order := order) ho hd ht hk W.ts l (st, s.set i true) hok
    have gb := ihr e h7 (walk o d order tris l (st, s.set i true)).1 (walk o d order tris l (st, s.set i true)).2 (by rw [walk_len]; simp [hsl])
      (fun j a b => by rw [walk_seen l _ h6 j (by omega)]; simp only; rw [List.getElem?_set_ne (by omega)]; exact hun' j (by omega) b) hok1
    simp only [TR.ix]
    unfold walk
    unfold missS
    simp only
    obtain ⟨Z, hZ⟩ : ∃ Z : Nat → WS × List Bool, Z = fun j => match j with
      | 0 => (st, s.set i true)
      | 1 => walk o d order tris l (st, s.set i true)
      | _ => walk o d order tris r (walk o d order tris l (st, s.set i true)) := ⟨_, rfl⟩
    have z0 : Z 0 = (st, s.set i true) := by subst hZ; rfl
    have z1 : Z 1 = walk o d order tris l (st, s.set i true) := by subst hZ; rfl
    have z2 : Z 2 = walk o d order tris r (walk o d order tris l (st, s.set i true)) := by subst hZ; rfl
    rw [← z2]
    change Good P F.P_trace_walker_node _ _ _ [.var (wc Ψ ND OD TD o d (walk o d order tris r (walk o d order tris l (st, s.set i true))).1.best (Ψ .cM (walk o d order tris r (walk o d order tris l (st, s.set i true))).1.m)), .row true T.bool 1 ((walk o d order tris r (walk o d order tris l (st, s.set i true))).2.map D.b)] at gb
    rw [← z2, ← z1] at gb
    rw [← z1] at ga
    clear hok1 hun hun' ihl ihr hZ z2 z1 sn
    generalize clipOk (vv o) (vv d) (bv n.box) = ok at *
    generalize clipS (vv o) (vv d) (bv n.box) = sp at *
    obtain ⟨SR, hSR⟩ : ∃ f : Nat → List D, f = fun j => (Z j).2.map D.b := ⟨_, rfl⟩
    have r0 : (s.set i true).map D.b = SR 0 := by subst hSR; simp only [z0]
    have r1 : (Z 1).2.map D.b = SR 1 := by subst hSR; rfl
    have r2 : (Z 2).2.map D.b = SR 2 := by subst hSR; rfl
    have b0 : st = (Z 0).1 := by rw [z0]
    rw [r0] at eset ga
    rw [r1] at ga gb
    rw [r2] at gb
    obtain ⟨S, hS⟩ : ∃ x, x = s.map D.b := ⟨_, rfl⟩
    rw [← hS] at e2 hSl eset ⊢
    have gp1 := gp (SR 0)
    clear gp hSR z0
    obtain ⟨bx, nl', nr, nf, nc⟩ := n
    simp only at h2 h3 h4
    subst h2 h3 h4
    cases ok
    · simp only [Bool.not_false, Bool.true_or, if_true]
      rw [r0]
      refine rk ?_
      refine ⟨ci_nonneg _, (by simp only [wz]; omega), (by simp only [wz]; omega), ci_nonneg _, _, e1, rfl, ?_⟩
      rw [eset]
      refine rk ?_
      exact ⟨[], rfl, rfl, rfl⟩
    · simp only [Bool.not_true, Bool.false_or]
      generalize (decide (0 ≤ st.best) && decide (st.m.s < sp.from')) = pb at *
      cases pb
      · simp only [Bool.false_eq_true, if_false]
        rw [r2]
        refine rk ?_
        refine ⟨ci_nonneg _, (by simp only [wz]; omega), (by simp only [wz]; omega), ci_nonneg _, _, e1, rfl, ?_⟩
        rw [eset]
        refine rk ?_
        refine LoopG.intro (σ := Nat) [0, 1, 76, 77] [0, 1]
          (fun j => [.ptr 0 0, .d (.i .i64 (Ω .ci i)), .agg [.d (.i .i64 (Ω .ci l.ix)), .d (.i .i64 (Ω .ci r.ix))], .d (.i .i64 (il j))])
          (fun j => [.var (wc Ψ ND OD TD o d (Z j).1.best (Ψ .cM (Z j).1.m)), .row true T.bool 1 (SR j)])
          (fun j => j ≤ 2)
          (fun j => 2 - j) 0 [0, 1] (Nat.zero_le _) ⟨rfl, rfl, by rw [← b0]; rfl⟩ ?_
        rw [b0] at ga
        rintro (_ | _ | _ | j) hj
        · refine rk ?_
          exact ⟨1, [0, 1], by omega, by omega, rfl, rfl, rfl⟩
        · refine rk ?_
          exact ⟨2, [0, 1], by omega, by omega, rfl, rfl, rfl⟩
        · refine rk ?_
          exact ⟨[], rfl, rfl, rfl⟩
        · omega
      · simp only [if_true]
        rw [r0]
        refine rk ?_
        refine ⟨ci_nonneg _, (by simp only [wz]; omega), (by simp only [wz]; omega), ci_nonneg _, _, e1, rfl, ?_⟩
        rw [eset]
        refine rk ?_
        exact ⟨[], rfl, rfl, rfl⟩
end Go.K.S
end
section
/-
  Contracts: what a ray meets first, by a tree.
-/
namespace Go.K
open Go Go.K.S
set_option linter.unusedVariables false
def st0 : WS := ⟨-1, m0⟩
def nearS (o d : VL) (order : List Nat) (tris : List TL) (n : Nat) (t : TR) : WS := (walk o d order tris t (st0, List.replicate n false)).1
end Go.K
namespace Go.K.S
open Go Go.K
set_option maxHeartbeats 8000000
set_option maxRecDepth 20000
set_option linter.unusedVariables false
set_option linter.unusedSimpArgs false
theorem st0_ok {k : Nat} (hk : 0 < k) : WOk (60 * k + 60) st0 := ⟨Qn_zero (by omega), by show (-1 : Int) ≤ -1; omega, by show (-1 : Int) < _; omega⟩
theorem nearest_good {nodes : List NodeL} {order : List Nat} {tris : List TL} {ND OD TD : List D} (W : WalkH order tris OD TD) (N : NodeH nodes ND) (o d : VL) {k : Nat}
    (ho : Vn k o) (hd : Vn k d) (ht : ∀ t, t ∈ tris → Tn k t) (hb : ∀ n, n ∈ nodes → Bn k n.box) (hk : 0 < k) (hk2 : k < 134217728) (t : TR) (hf : t.fit nodes order nodes.length) (hix : t.ix = 0) :
      Good P F.trace_Nearest [.d (.agg [.sl ND, .sl OD]), .d (.sl TD), .d (.agg (dV Ψ o)), .d (.agg (dV Ψ d))] []
        (.tup [.d (.i .i64 (nearS o d order tris nodes.length t).best), .d (.agg (dM Ψ (Ψ .cM (nearS o d order tris nodes.length t).m))), .d (.b (decide (0 ≤ (nearS o d order tris nodes.length t).best)))]) [] := by
  refine G.trace_Nearest fun C C2 hC hC2 => ?_
  have g1 := of01_good
  have g2 := node_good W N o d ho hd ht hb hk hk2 t nodes.length hf st0 (List.replicate nodes.length false) (by simp) (fun j _ hj => by simp [hj]) (st0_ok hk)
  rw [hix] at g2
  have nl := N.nl
  have ns := N.ns
  change Good P F.P_trace_walker_node _ _ _ [.var (wc Ψ ND OD TD o d (nearS o d order tris nodes.length t).best (Ψ .cM (nearS o d order tris nodes.length t).m)), _] at g2
  generalize nearS o d order tris nodes.length t = r at *
  generalize (walk o d order tris t (st0, List.replicate nodes.length false)).2.map D.b = S' at *
  have hS : Ω .srep (Ω .slen ND) (.b false) = (List.replicate nodes.length false).map D.b := by rw [w_srep, nl, List.map_replicate]
  generalize (List.replicate nodes.length false).map D.b = S at *
  by_cases hr : 0 ≤ r.best
  · rw [decide_eq_true hr]
    have hr' := le_true.2 hr
    refine rk ?_
    refine ⟨ci_nonneg _, Int.le_refl _, (by simp only [wz]; omega), (by simp only [wz]; omega), ?_⟩
    rw [hS]
    exact rk trivial
  · rw [decide_eq_false hr]
    have hr' := le_false.2 (Int.not_le.1 hr)
    refine rk ?_
    refine ⟨ci_nonneg _, Int.le_refl _, (by simp only [wz]; omega), (by simp only [wz]; omega), ?_⟩
    rw [hS]
    exact rk trivial
theorem node_none {OD TD S : List D} (o d : VL) (st : WS) :
    Good P F.P_trace_walker_node [.ptr 0 0, .d (.i .i64 (Ω .ci 0))] [.var (wc Ψ [] OD TD o d st.best (Ψ .cM st.m)), .row true T.bool 1 S] (.tup [])
      [.var (wc Ψ [] OD TD o d st.best (Ψ .cM st.m)), .row true T.bool 1 S] := by
  refine G.P_trace_walker_node (hb := of_decide_eq_true rfl) fun C C2 hC hC2 => ?_
  have q1 : Ω .lt (Ω .ci 0) 0 = false := rfl
  have q2 : Ω .le (Ω .ci 0) (Ω .ci 0) = true := rfl
  refine rk ?_
  exact ⟨[], rfl, rfl, rfl⟩
theorem nearest_none {OD TD : List D} (o d : VL) :
      Good P F.trace_Nearest [.d (.agg [.sl [], .sl OD]), .d (.sl TD), .d (.agg (dV Ψ o)), .d (.agg (dV Ψ d))] []
        (.tup [.d (.i .i64 (-1)), .d (.agg (dM Ψ (Ψ .cM m0))), .d (.b false)]) [] := by
  refine G.trace_Nearest fun C C2 hC hC2 => ?_
  have g1 := of01_good
  have g2 := node_none (OD := OD) (TD := TD) (S := []) o d st0
  have hS : Ω .srep 0 (.b false) = [] := rfl
  refine rk ?_
  refine ⟨ci_nonneg _, Int.le_refl _, (by simp only [wz]; omega), (by simp only [wz]; omega), ?_⟩
  rw [hS]
  exact rk trivial
end Go.K.S
end
section
/-
  Contracts: the document's tree over triangles.
-/
namespace Go.K
open Go Go.K.S
set_option linter.unusedVariables false
/-- a list of triangles, as data -/
structure TriH (tris : List TL) (TD : List D) : Prop where
  t : ∀ (i : Nat) t, tris[i]? = some t → Ω .sget TD i = some (.agg (dT Ψ t))
  tl : Ω .slen TD = tris.length
  ts : tris.length < 268435456
def corn (l : List TL) : List VL := l.flatMap fun t => [t.a, t.b, t.c]
theorem corn_snoc (l : List TL) (t : TL) : corn (l ++ [t]) = corn l ++ [t.a, t.b, t.c] := by simp [corn]
theorem corn_len (l : List TL) : (corn l).length = 3 * l.length := by
  induction l with
  | nil => rfl
  | cons t l ih => simp only [corn, List.flatMap_cons, List.length_append, List.length_cons, List.length_nil] at ih ⊢; omega
end Go.K
namespace Go.K.S
open Go Go.K
set_option maxHeartbeats 8000000
set_option maxRecDepth 20000
set_option linter.unusedVariables false
set_option linter.unusedSimpArgs false
theorem corners_good {tris : List TL} {TD : List D} (T' : TriH tris TD) (f : Nat) (hf : f ≤ tris.length) :
    Good P F.penumbraref11_corners [.d (.sl TD), .d (.i .i64 (Ω .ci f))] [] (.d (.sl (Ψ .dVs (corn (tris.drop f))))) [] := by
  refine G.penumbraref11_corners fun C C2 hC hC2 => ?_
  have tl := T'.tl
  have ts := T'.ts
  obtain ⟨S, hS⟩ : ∃ S : Nat → List VL, S = fun j => corn ((tris.drop f).take j) := ⟨_, rfl⟩
  have s0 : S 0 = [] := by subst hS; rfl
  have sS : ∀ j t, tris[f + j]? = some t → S (j + 1) = S j ++ [t.a, t.b, t.c] := fun j t h => by
    subst hS; simp only
    rw [take_succ_of (l := tris.drop f) (i := j) (x := t) (by rw [List.getElem?_drop]; exact h), corn_snoc]
  have sl : ∀ j, f + j ≤ tris.length → (S j).length = 3 * j := fun j h => by
    subst hS; simp only [corn_len, List.length_take, List.length_drop]; omega
  have sE : corn (tris.drop f) = S (tris.length - f) := by
    subst hS; simp only; rw [List.take_of_length_le (by simp)]
  rw [sE]
  clear hS sE
  have hcl : ∀ t : TL, ∀ u, u ∈ [D.agg (dV Ψ t.a), .agg (dV Ψ t.b), .agg (dV Ψ t.c)] → u.cells.length = 9 := fun t u h => by
    rcases mem3 h with rfl | rfl | rfl <;> rfl
  refine rk ?_
  refine LoopG.intro (σ := Nat) [0, 5, 6] [1050]
    (fun j => [.d (.sl TD), .own 1050 9, .d (.i .i64 (Ω .ci (f + j)))])
    (fun j => [.row true T.api_Vec 9 (Ψ .dVs (S j))])
    (fun j => f + j ≤ tris.length)
    (fun j => tris.length - (f + j)) 0 [1100] (by simpa using hf) ⟨rfl, rfl, by rw [s0]; rfl⟩ ?_
  intro j hj
  rcases Nat.lt_or_ge (f + j) tris.length with hlt | hge
  · obtain ⟨t, ht⟩ : ∃ t, tris[f + j]? = some t := ⟨_, List.getElem?_eq_getElem hlt⟩
    have q1 : Ω .lt (Ω .ci (f + j)) (Ω .ci (Ω .slen TD)) = true := by rw [tl]; simp only [wz]; omega
    have e1 := T'.t _ _ ht
    have ss := sS j t ht
    have sl' := sl j hj
    have hc := hcl t
    generalize S j = Sj at *
    refine rk ?_
    refine ⟨j + 1, [1517], hlt, by omega, rfl, ?_, ?_⟩
    · refine Eq.trans (b := [.d (.sl TD), .own 1050 9, .d (.i .i64 _)]) rfl ?_
      rw [wrap_succ (by omega)]; rfl
    · rw [ss, ← scat_dVs]; rfl
  · have q1 : Ω .lt (Ω .ci (f + j)) (Ω .ci (Ω .slen TD)) = false := by rw [tl]; simp only [wz]; omega
    rw [show tris.length - f = j by omega]
    exact rk trivial
end Go.K.S
namespace Go.K
/-- the chain of nodes -/
def leafN (t : TL) (i : Nat) : NodeL := ⟨Ψ .cB (bjoins ([t.a, t.b, t.c].map pbox)), 0, 0, Ω .ci i, 1⟩
def innerN (tris : List TL) (i : Nat) : NodeL := ⟨Ψ .cB (bjoins ((corn (tris.drop i)).map pbox)), Ω .ci (2 * i + 1), Ω .ci (2 * i + 2), 0, 0⟩
def treeAt (tris : List TL) (i : Nat) : List NodeL := match tris[i]? with
  | none => []
  | some t => if i + 1 < tris.length then [innerN tris i, leafN t i] else [leafN t i]
def treeN (tris : List TL) (i : Nat) : List NodeL := (List.range i).flatMap (treeAt tris)
theorem treeN_succ (tris : List TL) (i : Nat) : treeN tris (i + 1) = treeN tris i ++ treeAt tris i := by simp [treeN, List.range_succ]
theorem treeN_len (tris : List TL) : ∀ i, i < tris.length → (treeN tris i).length = 2 * i
  | 0, _ => rfl
  | i + 1, h => by
    rw [treeN_succ, List.length_append, treeN_len tris i (by omega)]
    unfold treeAt
    rw [List.getElem?_eq_getElem (by omega)]
    simp only [if_pos h, List.length_cons, List.length_nil]
    omega
def nodesD (l : List NodeL) : List D := l.map fun n => .agg (dNode Ψ n)
def orderD (n : Nat) : List D := (List.range n).map fun i => .i .i64 (Ω .ci i)
theorem orderD_succ (n : Nat) : orderD (n + 1) = Ω .scat (orderD n) [.i .i64 (Ω .ci n)] := by simp [orderD, List.range_succ, w_scat]
theorem orderD_len (n : Nat) : Ω .slen (orderD n) = n := by simp [orderD, w_slen]
theorem nodesD_snoc (l : List NodeL) (n : NodeL) : nodesD (l ++ [n]) = Ω .scat (nodesD l) [.agg (dNode Ψ n)] := by simp [nodesD, w_scat]
theorem nodesD_len (l : List NodeL) : Ω .slen (nodesD l) = l.length := by simp [nodesD, w_slen]
end Go.K
namespace Go.K.S
open Go Go.K
set_option maxHeartbeats 8000000
set_option maxRecDepth 20000
set_option linter.unusedVariables false
set_option linter.unusedSimpArgs false
theorem tree_good {tris : List TL} {TD : List D} (T' : TriH tris TD) {k : Nat} (ht : ∀ t, t ∈ tris → Tn k t) (hk : 0 < k) (hk2 : k < 134217728) :
    Good P F.penumbraref11_Tree [.d (.sl TD)] [] (.d (.agg [.sl (nodesD (treeN tris tris.length)), .sl (orderD tris.length)])) [] := by
  refine G.penumbraref11_Tree fun C C2 hC hC2 => ?_
  have tl := T'.tl
  have ts := T'.ts
  have o0 : orderD 0 = [] := rfl
  have oS := orderD_succ
  have ol := orderD_len
  obtain ⟨NT, hNT⟩ : ∃ NT : Nat → List D, NT = fun i => nodesD (treeN tris i) := ⟨_, rfl⟩
  obtain ⟨B1, hB1⟩ : ∃ B : TL → BL, B = fun t => Ψ .cB (bjoins ([t.a, t.b, t.c].map pbox)) := ⟨_, rfl⟩
  obtain ⟨B2, hB2⟩ : ∃ B : Nat → BL, B = fun i => Ψ .cB (bjoins ((corn (tris.drop i)).map pbox)) := ⟨_, rfl⟩
  obtain ⟨CR, hCR⟩ : ∃ B : Nat → List VL, B = fun i => corn (tris.drop i) := ⟨_, rfl⟩
  have n0 : NT 0 = [] := by subst hNT; rfl
  have nE : nodesD (treeN tris tris.length) = NT tris.length := by subst hNT; rfl
  have nl : ∀ i, i < tris.length → Ω .slen (NT i) = 2 * i := fun i h => by subst hNT; simp only [nodesD_len, treeN_len tris i h]
  have nS1 : ∀ i t, tris[i]? = some t → i + 1 < tris.length → NT (i + 1) = Ω .scat (Ω .scat (NT i) [.agg (dNode Ψ ⟨B2 i, Ω .ci (2 * i + 1), Ω .ci (2 * i + 2), 0, 0⟩)]) [.agg (dNode Ψ ⟨B1 t, 0, 0, Ω .ci i, 1⟩)] := fun i t h h2 => by
    subst hNT hB1 hB2; simp only [treeN_succ, treeAt, h, if_pos h2]
    rw [← nodesD_snoc, ← nodesD_snoc, List.append_assoc]; rfl
  have nS2 : ∀ i t, tris[i]? = some t → ¬ i + 1 < tris.length → NT (i + 1) = Ω .scat (NT i) [.agg (dNode Ψ ⟨B1 t, 0, 0, Ω .ci i, 1⟩)] := fun i t h h2 => by
    subst hNT hB1; simp only [treeN_succ, treeAt, h, if_neg h2]
    rw [← nodesD_snoc]; rfl
  rw [nE]
  clear nE
  have hround : ∀ i t, tris[i]? = some t → Good P F.penumbraref10_Around [.d (.sl [.agg (dV Ψ t.a), .agg (dV Ψ t.b), .agg (dV Ψ t.c)])] [] (.d (.agg (dB Ψ (B1 t)))) [] ∧
      Good P F.penumbraref10_Around [.d (.sl (Ψ .dVs (CR i)))] [] (.d (.agg (dB Ψ (B2 i)))) [] ∧
      Good P F.penumbraref11_corners [.d (.sl TD), .d (.i .i64 (Ω .ci i))] [] (.d (.sl (Ψ .dVs (CR i)))) [] := fun i t h => by
    subst hB1 hB2 hCR
    have htt := ht t (List.mem_of_getElem? h)
    refine ⟨around10_good [t.a, t.b, t.c] (k := k) (fun b hb => by rcases mem3 hb with rfl | rfl | rfl; exact htt.a; exact htt.b; exact htt.c) (by simp) hk (by omega), around10_good _ (k := k) (fun v hv => ?_) (by rw [corn_len]; simp; omega) hk (by omega), corners_good T' i (Nat.le_of_lt (List.getElem?_eq_some_iff.1 h).1)⟩
    obtain ⟨u, hu, hv⟩ := List.mem_flatMap.1 hv
    have hu' := ht u (List.mem_of_mem_drop hu)
    rcases mem3 hv with rfl | rfl | rfl
    · exact hu'.a
    · exact hu'.b
    · exact hu'.c
  clear hNT hB1 hB2 hCR
  generalize orderD = O at *
  refine rk ?_
  refine LoopG.intro2 (σ := Nat) [0, 2, 3, 4] (fun i => match i with | 0 => [1050, 1051] | _ + 1 => [1050, 1051, 1052])
    (fun i => [.d (.sl TD), .ptr 1050 0, .ptr 1051 0, .d (.i .i64 (Ω .ci i))])
    (fun i => .var [.nil, .nil] :: match i with | 0 => [.var [.nil, .nil]] | i + 1 => [.var [.nil, .own 1052 1], .row true T.int 1 (O (i + 1))])
    (fun i => i ≤ tris.length)
    (fun i => tris.length - i) 0 [1000, 1101] (Nat.zero_le _) ⟨rfl, rfl, rfl⟩ ?_
  rintro (_ | i) hi
  · rcases Nat.lt_or_ge 0 tris.length with hlt | hge
    · have q1 : Ω .lt (Ω .ci 0) (Ω .ci (Ω .slen TD)) = true := by rw [tl]; simp only [wz]; omega
      refine rk ?_
      refine ⟨1, [1050, 1051, 1504], hlt, by omega, rfl, ?_, ?_⟩
      · refine Eq.trans (b := [.d (.sl TD), .ptr 1050 0, .ptr 1051 0, .d (.i .i64 _)]) rfl ?_
        rw [wrap_succ (by omega)]
      · simp only [oS, o0]; rfl
    · have q1 : Ω .lt (Ω .ci 0) (Ω .ci (Ω .slen TD)) = false := by rw [tl]; simp only [wz]; omega
      have hl0 : tris.length = 0 := by omega
      rw [hl0, n0, o0]
      refine rk ?_
      refine LoopG.intro (σ := Unit) [0, 2, 3, 5] [1050, 1051]
        (fun _ => [.d (.sl TD), .ptr 1050 0, .ptr 1051 0, .d (.i .i64 0)])
        (fun _ => [.var [.nil, .nil], .var [.nil, .nil]])
        (fun _ => True) (fun _ => 0) () [1050, 1051] trivial ⟨rfl, rfl, rfl⟩ ?_
      intro _ _
      have q1' : Ω .lt 0 (Ω .ci (Ω .slen TD)) = false := q1
      exact rk trivial
  · rcases Nat.lt_or_ge (i + 1) tris.length with hlt | hge
    · have q1 : Ω .lt (Ω .ci (i + 1)) (Ω .ci (Ω .slen TD)) = true := by rw [tl]; simp only [wz]; omega
      have ol' := ol (i + 1)
      refine rk ?_
      refine ⟨i + 1 + 1, [1050, 1051, 1504], hlt, by omega, rfl, ?_, ?_⟩
      · refine Eq.trans (b := [.d (.sl TD), .ptr 1050 0, .ptr 1051 0, .d (.i .i64 _)]) rfl ?_
        rw [wrap_succ (by omega)]
      · change _ = [Blk.var [V.nil, V.nil], Blk.var [V.nil, V.own 1052 1], Blk.row true T.int 1 (O (i + 1 + 1))]
        rw [oS (i + 1)]; rfl
    · have q1 : Ω .lt (Ω .ci (i + 1)) (Ω .ci (Ω .slen TD)) = false := by rw [tl]; simp only [wz]; omega
      have hl0 : tris.length = i + 1 := by omega
      refine rk ?_
      rw [hl0]
      refine LoopG.intro2 (σ := Nat) [0, 2, 3, 5] (fun j => match j with | 0 => [1050, 1051, 1052] | _ + 1 => [1050, 1051, 1052, 1053])
        (fun j => [.d (.sl TD), .ptr 1050 0, .ptr 1051 0, .d (.i .i64 (Ω .ci j))])
        (fun j => .var [.nil, .nil] :: match j with
          | 0 => [.var [.nil, .own 1052 1], .row true T.int 1 (O (i + 1))]
          | j + 1 => [.var [.own 1053 22, .own 1052 1], .row true T.int 1 (O (i + 1)), .row true T.api_Node 22 (NT (j + 1))])
        (fun j => j ≤ i + 1)
        (fun j => i + 1 - j) 0 [1050, 1051, 1052] (Nat.zero_le _) ⟨rfl, rfl, rfl⟩ ?_
      rintro (_ | j) hj
      · obtain ⟨t, htr⟩ : ∃ t, tris[0]? = some t := ⟨_, List.getElem?_eq_getElem (by omega)⟩
        have q1 : Ω .lt (Ω .ci 0) (Ω .ci (Ω .slen TD)) = true := by rw [tl]; simp only [wz]; omega
        have e1 := T'.t _ _ htr
        obtain ⟨g1, g2, g3⟩ := hround (0) t htr
        clear hround
        have hw1 : Ω .wrap .i64 (Ω .wrap .i64 (2 * Ω .ci (0)) + 1) = Ω .ci (2 * (0) + 1) := by
          rw [wrap64 (n := 2 * Ω .ci (0)) (by simp only [wz]; omega) (by simp only [wz]; omega), wrap64 (by simp only [wz]; omega) (by simp only [wz]; omega)]; simp only [wz]; omega
        have hw2 : Ω .wrap .i64 (Ω .wrap .i64 (2 * Ω .ci (0)) + 2) = Ω .ci (2 * (0) + 2) := by
          rw [wrap64 (n := 2 * Ω .ci (0)) (by simp only [wz]; omega) (by simp only [wz]; omega), wrap64 (by simp only [wz]; omega) (by simp only [wz]; omega)]; simp only [wz]; omega
        by_cases h1 : 0 + 1 < tris.length
        · have n1 := nS1 (0) t htr h1
          have q2 : Ω .lt (Ω .wrap .i64 (Ω .ci (0) + 1)) (Ω .ci (Ω .slen TD)) = true := by rw [wrap_succ (by omega), tl]; simp only [wz]; omega
          refine rk ?_
          refine ⟨0 + 1, [1050, 1051, 1052, 2204], by omega, by omega, rfl, ?_, ?_⟩
          · refine Eq.trans (b := [.d (.sl TD), .ptr 1050 0, .ptr 1051 0, .d (.i .i64 _)]) rfl ?_
            rw [wrap_succ (by omega)]
          · change _ = [Blk.var [V.nil, V.nil], Blk.var [V.own 1053 22, V.own 1052 1], Blk.row true T.int 1 (O (i + 1)), Blk.row true T.api_Node 22 (NT (0 + 1))]
            rw [n1, ← hw1, ← hw2, n0]; rfl
        · have n1 := nS2 (0) t htr h1
          have q2 : Ω .lt (Ω .wrap .i64 (Ω .ci (0) + 1)) (Ω .ci (Ω .slen TD)) = false := by rw [wrap_succ (by omega), tl]; simp only [wz]; omega
          refine rk ?_
          refine ⟨0 + 1, [1050, 1051, 1052, 2204], by omega, by omega, rfl, ?_, ?_⟩
          · refine Eq.trans (b := [.d (.sl TD), .ptr 1050 0, .ptr 1051 0, .d (.i .i64 _)]) rfl ?_
            rw [wrap_succ (by omega)]
          · change _ = [Blk.var [V.nil, V.nil], Blk.var [V.own 1053 22, V.own 1052 1], Blk.row true T.int 1 (O (i + 1)), Blk.row true T.api_Node 22 (NT (0 + 1))]
            rw [n1, n0]; rfl
      · rcases Nat.lt_or_ge (j + 1) tris.length with hlt | hge'
        focus
          obtain ⟨t, htr⟩ : ∃ t, tris[j + 1]? = some t := ⟨_, List.getElem?_eq_getElem (by omega)⟩
          have q1 : Ω .lt (Ω .ci (j + 1)) (Ω .ci (Ω .slen TD)) = true := by rw [tl]; simp only [wz]; omega
          have e1 := T'.t _ _ htr
          have nlj := nl (j + 1) hlt
          obtain ⟨g1, g2, g3⟩ := hround (j + 1) t htr
          clear hround
          have hw1 : Ω .wrap .i64 (Ω .wrap .i64 (2 * Ω .ci (j + 1)) + 1) = Ω .ci (2 * (j + 1) + 1) := by
            rw [wrap64 (n := 2 * Ω .ci (j + 1)) (by simp only [wz]; omega) (by simp only [wz]; omega), wrap64 (by simp only [wz]; omega) (by simp only [wz]; omega)]; simp only [wz]; omega
          have hw2 : Ω .wrap .i64 (Ω .wrap .i64 (2 * Ω .ci (j + 1)) + 2) = Ω .ci (2 * (j + 1) + 2) := by
            rw [wrap64 (n := 2 * Ω .ci (j + 1)) (by simp only [wz]; omega) (by simp only [wz]; omega), wrap64 (by simp only [wz]; omega) (by simp only [wz]; omega)]; simp only [wz]; omega
          by_cases h1 : j + 1 + 1 < tris.length
          · have n1 := nS1 (j + 1) t htr h1
            have q2 : Ω .lt (Ω .wrap .i64 (Ω .ci (j + 1) + 1)) (Ω .ci (Ω .slen TD)) = true := by rw [wrap_succ (by omega), tl]; simp only [wz]; omega
            refine rk ?_
            refine ⟨j + 1 + 1, [1050, 1051, 1052, 2204], by omega, by omega, rfl, ?_, ?_⟩
            · refine Eq.trans (b := [.d (.sl TD), .ptr 1050 0, .ptr 1051 0, .d (.i .i64 _)]) rfl ?_
              rw [wrap_succ (by omega)]
            · change _ = [Blk.var [V.nil, V.nil], Blk.var [V.own 1053 22, V.own 1052 1], Blk.row true T.int 1 (O (i + 1)), Blk.row true T.api_Node 22 (NT (j + 1 + 1))]
              rw [n1, ← hw1, ← hw2]; rfl
          · have n1 := nS2 (j + 1) t htr h1
            have q2 : Ω .lt (Ω .wrap .i64 (Ω .ci (j + 1) + 1)) (Ω .ci (Ω .slen TD)) = false := by rw [wrap_succ (by omega), tl]; simp only [wz]; omega
            refine rk ?_
            refine ⟨j + 1 + 1, [1050, 1051, 1052, 2204], by omega, by omega, rfl, ?_, ?_⟩
            · refine Eq.trans (b := [.d (.sl TD), .ptr 1050 0, .ptr 1051 0, .d (.i .i64 _)]) rfl ?_
              rw [wrap_succ (by omega)]
            · change _ = [Blk.var [V.nil, V.nil], Blk.var [V.own 1053 22, V.own 1052 1], Blk.row true T.int 1 (O (i + 1)), Blk.row true T.api_Node 22 (NT (j + 1 + 1))]
              rw [n1]; rfl

        focus
          have q1 : Ω .lt (Ω .ci (j + 1)) (Ω .ci (Ω .slen TD)) = false := by rw [tl]; simp only [wz]; omega
          obtain rfl : j = i := by omega
          exact rk trivial
end Go.K.S
end
section
/-
  The plain law of trees: what is met first is met so, whatever the tree.
-/
namespace Go.K
open Go Go.K.S
set_option linter.unusedVariables false
/-- what has been met is the first of some triangles, and of these the one of the lowest number -/
def Bst (h : Nat → Option M3) (A : Nat → Prop) (st : WS) : Prop :=
  (st = st0 ∧ ∀ j, A j → h j = none) ∨ ∃ i : Nat, st.best = (i : Int) ∧ A i ∧ h i = some st.m ∧ ∀ j m, A j → h j = some m → st.m.s < m.s ∨ (st.m.s = m.s ∧ i ≤ j)
theorem Bst.congr {h : Nat → Option M3} {A B : Nat → Prop} {st : WS} (hb : Bst h A st) (e : ∀ j, A j ↔ B j) : Bst h B st := by
  have : A = B := funext fun j => propext (e j)
  rwa [← this]
theorem Bst.take {h : Nat → Option M3} {A : Nat → Prop} {st : WS} (hb : Bst h A st) (i : Nat) : Bst h (fun j => A j ∨ j = i) (takeS (h i) i st) := by
  unfold takeS
  cases hi : h i with
  | none =>
    simp only
    rcases hb with ⟨e, hn⟩ | ⟨k, e, ha, hk, hm⟩
    · exact .inl ⟨e, fun j hj => hj.elim (hn j) fun q => q ▸ hi⟩
    · exact .inr ⟨k, e, .inl ha, hk, fun j m hj hm' => hj.elim (fun q => hm j m q hm') fun q => by rw [q, hi] at hm'; cases hm'⟩
  | some m =>
    simp only
    by_cases c : 0 ≤ st.best ∧ (st.m.s < m.s ∨ m.s = st.m.s ∧ st.best < (i : Int))
    · rw [if_pos c]
      rcases hb with ⟨e, hn⟩ | ⟨k, e, ha, hk, hm⟩
      · exfalso
        have := c.1
        rw [e] at this
        exact absurd this (by show ¬ (0 : Int) ≤ -1; omega)
      · refine .inr ⟨k, e, .inl ha, hk, fun j m' hj hm' => hj.elim (fun q => hm j m' q hm') fun q => ?_⟩
        subst q
        rw [hi] at hm'
        cases hm'
        rcases c.2 with c | c
        · exact .inl c
        · exact .inr ⟨c.1.symm, by have := c.2; omega⟩
    · rw [if_neg c]
      refine .inr ⟨i, rfl, .inr rfl, hi, fun j m' hj hm' => ?_⟩
      simp only
      rcases hj with hj | hj
      · rcases hb with ⟨e, hn⟩ | ⟨k, e, ha, hk, hm⟩
        · rw [hn j hj] at hm'; cases hm'
        · have h1 := hm j m' hj hm'
          have h2 : ¬ (st.m.s < m.s ∨ m.s = st.m.s ∧ st.best < (i : Int)) := fun q => c ⟨by omega, q⟩
          have h3 : m.s ≤ st.m.s := by grind
          rcases h1 with h1 | ⟨h1, h4⟩
          · exact .inl (by grind)
          · by_cases h5 : m.s = st.m.s
            · have : ¬ st.best < (i : Int) := fun q => h2 (.inr ⟨h5, q⟩)
              exact .inr ⟨by grind, by omega⟩
            · exact .inl (by grind)
      · subst hj
        rw [hi] at hm'
        cases hm'
        exact .inr ⟨rfl, Nat.le_refl _⟩
theorem Bst.leaf {h : Nat → Option M3} : ∀ (l : List Nat) {A : Nat → Prop} {st : WS}, Bst h A st → Bst h (fun j => A j ∨ j ∈ l) (leafS h l st)
  | [], A, st, hb => hb.congr fun j => by simp
  | i :: l, A, st, hb => (Bst.leaf l (hb.take i)).congr fun j => by simp only [List.mem_cons, or_assoc]
theorem Bst.same {h : Nat → Option M3} {A : Nat → Prop} {st st' : WS} (h1 : Bst h A st) (h2 : Bst h A st') : st = st' := by
  rcases h1 with ⟨e, hn⟩ | ⟨k, e, ha, hk, hm⟩ <;> rcases h2 with ⟨e', hn'⟩ | ⟨k', e', ha', hk', hm'⟩
  · rw [e, e']
  · rw [hn k' ha'] at hk'; cases hk'
  · rw [hn' k ha] at hk; cases hk
  · have a1 := hm k' _ ha' hk'
    have a2 := hm' k _ ha hk
    have hkk : k = k' := by
      rcases a1 with a1 | a1 <;> rcases a2 with a2 | a2
      · grind
      · grind
      · grind
      · omega
    subst hkk
    rw [hk] at hk'
    obtain ⟨b, m⟩ := st
    obtain ⟨b', m'⟩ := st'
    simp only at *
    cases hk'
    rw [e, e']
/-- of what cannot be better nothing comes -/
theorem Bst.none' {h : Nat → Option M3} {A B : Nat → Prop} {st : WS} (hb : Bst h A st) (hn : ∀ j m, B j → h j = some m → 0 ≤ st.best ∧ st.m.s < m.s) : Bst h (fun j => A j ∨ B j) st := by
  rcases hb with ⟨e, hn'⟩ | ⟨k, e, ha, hk, hm⟩
  · refine .inl ⟨e, fun j hj => ?_⟩
    rcases hj with hj | hj
    · exact hn' j hj
    · cases hh : h j with
      | none => rfl
      | some m =>
        have := (hn j m hj hh).1
        rw [e] at this
        exact absurd this (by show ¬ (0 : Int) ≤ -1; omega)
  · refine .inr ⟨k, e, .inl ha, hk, fun j m hj hm' => ?_⟩
    rcases hj with hj | hj
    · exact hm j m hj hm'
    · exact .inl (hn j m hj hm').2
theorem meet_box {o d : V3} {t : TL} {m : M3} {b : B3} (ha : holds b (vv t.a)) (hb : holds b (vv t.b)) (hc : holds b (vv t.c)) (h : hitS o d (tv t) = some m) : holds b (vat o d m.s) := by
  obtain ⟨_, _, hu, hv, huv, hp⟩ := hit_point h
  rw [hp]
  refine ⟨?_, ?_, ?_⟩
  · have := btw_mix ha.1 hb.1 hc.1 hu hv huv
    simp only [vadd, vmul, vsub, tv]; rw [← Rat.add_assoc]; exact this
  · have := btw_mix ha.2.1 hb.2.1 hc.2.1 hu hv huv
    simp only [vadd, vmul, vsub, tv]; rw [← Rat.add_assoc]; exact this
  · have := btw_mix ha.2.2 hb.2.2 hc.2.2 hu hv huv
    simp only [vadd, vmul, vsub, tv]; rw [← Rat.add_assoc]; exact this
/-- the triangles below a node -/
def TR.set (order : List Nat) : TR → List Nat
  | .leaf _ _ f c => (order.drop f).take c
  | .inner _ _ l r => l.set order ++ r.set order
def boxHolds (tris : List TL) (b : B3) (l : List Nat) : Prop := ∀ j, j ∈ l → ∀ t, tris[j]? = some t → holds b (vv t.a) ∧ holds b (vv t.b) ∧ holds b (vv t.c)
/-- each box holds what is below it -/
def TR.held (order : List Nat) (tris : List TL) : TR → Prop
  | .leaf i n f c => boxHolds tris (bv n.box) ((order.drop f).take c)
  | .inner i n l r => boxHolds tris (bv n.box) (l.set order ++ r.set order) ∧ l.held order tris ∧ r.held order tris
theorem miss_none {o d : VL} {tris : List TL} {n : NodeL} {st : WS} {l : List Nat} (hb : boxHolds tris (bv n.box) l) (hm : missS o d n st = true) : ∀ j m, j ∈ l → hitAt o d tris j = some m → 0 ≤ st.best ∧ st.m.s < m.s := fun j m hj hh => by
  unfold hitAt at hh
  cases ht : tris[j]? with
  | none => rw [ht] at hh; cases hh
  | some t =>
    rw [ht] at hh
    obtain ⟨h1, h2, h3⟩ := hb j hj t ht
    have hin := meet_box h1 h2 h3 hh
    have hs := (hit_point hh).2.1
    have hw := within_law (o := vv o) (d := vv d) (b := bv n.box) (s := m.s) (by grind)
    rw [decide_eq_true hin] at hw
    unfold missS at hm
    have hw' := hw.symm
    rw [Bool.and_eq_true, Bool.and_eq_true] at hw'
    obtain ⟨hok, hfr, _⟩ := hw'
    have hfr' := of_decide_eq_true hfr
    rw [hok] at hm
    simp only [Bool.not_true, Bool.false_or, Bool.and_eq_true, decide_eq_true_eq] at hm
    exact ⟨hm.1, by have := hm.2; grind⟩
/-- THE PLAIN LAW -/
theorem walk_best {o d : VL} {order : List Nat} {tris : List TL} : ∀ (t : TR) {A : Nat → Prop} (x : WS × List Bool), t.held order tris → Bst (hitAt o d tris) A x.1 → Bst (hitAt o d tris) (fun j => A j ∨ j ∈ t.set order) (walk o d order tris t x).1
  | .leaf i n f c, A, x, hh, hb => by
    unfold walk
    by_cases hm : missS o d n x.1 = true
    · rw [if_pos hm]; exact hb.none' (miss_none hh hm)
    · rw [if_neg hm]; exact hb.leaf _
  | .inner i n l r, A, x, hh, hb => by
    unfold walk
    by_cases hm : missS o d n x.1 = true
    · rw [if_pos hm]; exact hb.none' (miss_none hh.1 hm)
    · rw [if_neg hm]
      refine (walk_best r (walk o d order tris l (x.1, x.2.set i true)) hh.2.2 (walk_best l (x.1, x.2.set i true) hh.2.1 hb)).congr (B := fun j => A j ∨ j ∈ TR.set order (TR.inner i n l r)) fun j => by simp only [TR.set, List.mem_append, or_assoc]
theorem near_best {o d : VL} {order : List Nat} {tris : List TL} {n : Nat} {t : TR} (hh : t.held order tris) : Bst (hitAt o d tris) (fun j => j ∈ t.set order) (nearS o d order tris n t) :=
  (walk_best t (A := fun _ => False) (st0, List.replicate n false) hh (.inl ⟨rfl, fun _ h => h.elim⟩)).congr fun j => by simp

/-! ### the document's tree fits -/
def tl0 : TL := ⟨⟨⟨false, [], []⟩, ⟨false, [], []⟩, ⟨false, [], []⟩⟩, ⟨⟨false, [], []⟩, ⟨false, [], []⟩, ⟨false, [], []⟩⟩, ⟨⟨false, [], []⟩, ⟨false, [], []⟩, ⟨false, [], []⟩⟩⟩
def tlAt (tris : List TL) (i : Nat) : TL := (tris[i]?).getD tl0
def chainT (tris : List TL) : Nat → Nat → TR
  | i, 0 => .leaf (2 * i) (leafN (tlAt tris i) i) i 1
  | i, m + 1 => .inner (2 * i) (innerN tris i) (.leaf (2 * i + 1) (leafN (tlAt tris i) i) i 1) (chainT tris (i + 1) m)
theorem chainT_ix (tris : List TL) : ∀ i m, (chainT tris i m).ix = 2 * i
  | i, 0 => rfl
  | i, m + 1 => rfl
theorem treeN_get (tris : List TL) : ∀ n, n ≤ tris.length → ∀ i, i < n → ∀ j, j < 2 → (treeAt tris i)[j]? ≠ none → (treeN tris n)[2 * i + j]? = (treeAt tris i)[j]?
  | 0, _, i, hi, _, _, _ => absurd hi (Nat.not_lt_zero _)
  | n + 1, hn, i, hi, j, hj, hne => by
    have hl := treeN_len tris n (by omega)
    rw [treeN_succ]
    rcases Nat.lt_or_ge i n with c | c
    · rw [List.getElem?_append_left (by rw [hl]; omega)]
      exact treeN_get tris n (by omega) i c j hj hne
    · obtain rfl : i = n := by omega
      rw [List.getElem?_append_right (by rw [hl]; omega), hl]
      congr 1; omega
theorem treeN_all (tris : List TL) (h : 0 < tris.length) : (treeN tris tris.length).length = 2 * tris.length - 1 := by
  obtain ⟨n, hn⟩ : ∃ n, tris.length = n + 1 := ⟨tris.length - 1, by omega⟩
  rw [hn, treeN_succ, List.length_append, treeN_len tris n (by omega)]
  unfold treeAt
  rw [List.getElem?_eq_getElem (by omega)]
  simp only [if_neg (show ¬ n + 1 < tris.length by omega), List.length_cons, List.length_nil]
  omega
theorem treeAt_some (tris : List TL) {i : Nat} (hi : i < tris.length) : treeAt tris i = if i + 1 < tris.length then [innerN tris i, leafN (tlAt tris i) i] else [leafN (tlAt tris i) i] := by
  unfold treeAt tlAt
  rw [List.getElem?_eq_getElem hi]; rfl
theorem chain_fit (tris : List TL) : ∀ (m i : Nat), i + m + 1 = tris.length → (chainT tris i m).fit (treeN tris tris.length) (List.range tris.length) (treeN tris tris.length).length
  | 0, i, h => by
    have hat := treeAt_some tris (i := i) (by omega)
    rw [if_neg (by omega)] at hat
    have hg := treeN_get tris tris.length (Nat.le_refl _) i (by omega) 0 (by omega) (by rw [hat]; simp)
    rw [hat] at hg
    refine ⟨hg, rfl, rfl, by omega, by rw [List.length_range]; omega, by rw [treeN_all tris (by omega)]; omega⟩
  | m + 1, i, h => by
    have hat := treeAt_some tris (i := i) (by omega)
    rw [if_pos (by omega)] at hat
    have hg0 := treeN_get tris tris.length (Nat.le_refl _) i (by omega) 0 (by omega) (by rw [hat]; simp)
    have hg1 := treeN_get tris tris.length (Nat.le_refl _) i (by omega) 1 (by omega) (by rw [hat]; simp)
    rw [hat] at hg0 hg1
    refine ⟨hg0, rfl, rfl, ?_, rfl, ⟨hg1, rfl, rfl, by omega, by rw [List.length_range]; omega, ?_⟩, chain_fit tris m (i + 1) (by omega)⟩
    · rw [chainT_ix]; show Ω .ci (2 * i + 2) = Ω .ci (2 * (i + 1)); congr 1
    · rw [chainT_ix]; omega
theorem chain_set (tris : List TL) : ∀ (m i : Nat), i + m + 1 = tris.length → ∀ j, j ∈ (chainT tris i m).set (List.range tris.length) ↔ i ≤ j ∧ j < tris.length := fun m => by
  have one : ∀ i, i < tris.length → ((List.range tris.length).drop i).take 1 = [i] := fun i h => by
    refine List.ext_getElem? fun j => ?_
    cases j with
    | zero => rw [List.getElem?_take_of_lt (by omega), List.getElem?_drop]; simp [h]
    | succ j => simp [List.getElem?_take]
  induction m with
  | zero =>
    intro i h j
    simp only [chainT, TR.set]
    rw [one i (by omega), List.mem_singleton]
    omega
  | succ m ih =>
    intro i h j
    simp only [chainT, TR.set, List.mem_append]
    rw [one i (by omega), List.mem_singleton, ih (i + 1) (by omega)]
    omega
theorem corn_holds (tris : List TL) (i : Nat) (hi : i < tris.length) : ∀ j t, i ≤ j → tris[j]? = some t → holds (bjoins ((corn (tris.drop i)).map pbox)) (vv t.a) ∧ holds (bjoins ((corn (tris.drop i)).map pbox)) (vv t.b) ∧ holds (bjoins ((corn (tris.drop i)).map pbox)) (vv t.c) := fun j t hj ht => by
  have hne : corn (tris.drop i) ≠ [] := fun h => by
    have := congrArg List.length h
    rw [corn_len, List.length_drop, List.length_nil] at this
    omega
  have hs := (around_says _ hne).1
  have hm : t ∈ tris.drop i := List.mem_of_getElem? (i := j - i) (by rw [List.getElem?_drop, show i + (j - i) = j by omega]; exact ht)
  exact ⟨hs _ (List.mem_flatMap.2 ⟨t, hm, by simp⟩), hs _ (List.mem_flatMap.2 ⟨t, hm, by simp⟩), hs _ (List.mem_flatMap.2 ⟨t, hm, by simp⟩)⟩
theorem leaf_holds (t : TL) : holds (bjoins ([t.a, t.b, t.c].map pbox)) (vv t.a) ∧ holds (bjoins ([t.a, t.b, t.c].map pbox)) (vv t.b) ∧ holds (bjoins ([t.a, t.b, t.c].map pbox)) (vv t.c) := by
  have hs := (around_says [t.a, t.b, t.c] (by simp)).1
  exact ⟨hs t.a (by simp), hs t.b (by simp), hs t.c (by simp)⟩
theorem chain_held (tris : List TL) : ∀ (m i : Nat), i + m + 1 = tris.length → (chainT tris i m).held (List.range tris.length) tris := fun m => by
  have leaf : ∀ i p, i < tris.length → TR.held (List.range tris.length) tris (.leaf p (leafN (tlAt tris i) i) i 1) := fun i p h => by
    have one : ((List.range tris.length).drop i).take 1 = [i] := by
      refine List.ext_getElem? fun j => ?_
      cases j with
      | zero => rw [List.getElem?_take_of_lt (by omega), List.getElem?_drop]; simp [h]
      | succ j => simp [List.getElem?_take]
    intro j hj t ht
    rw [one, List.mem_singleton] at hj
    subst hj
    have e : tlAt tris j = t := by unfold tlAt; rw [ht]; rfl
    rw [e]
    show holds (bv (Ψ .cB _)) _ ∧ holds (bv (Ψ .cB _)) _ ∧ holds (bv (Ψ .cB _)) _
    rw [bv_cB]
    exact leaf_holds t
  induction m with
  | zero => intro i h; exact leaf i _ (by omega)
  | succ m ih =>
    intro i h
    refine ⟨?_, leaf i _ (by omega), ih (i + 1) (by omega)⟩
    intro j hj t ht
    have hj' : j ∈ (chainT tris i (m + 1)).set (List.range tris.length) := hj
    rw [chain_set tris (m + 1) i h] at hj'
    show holds (bv (Ψ .cB _)) _ ∧ holds (bv (Ψ .cB _)) _ ∧ holds (bv (Ψ .cB _)) _
    rw [bv_cB]
    exact corn_holds tris i (by omega) j t hj'.1 ht
end Go.K
end
section
/-
  Contracts: what a ray meets first by the document's tree; what stands between; the fixed calls of the laws on traces.
-/
namespace Go.K
open Go Go.K.S
set_option linter.unusedVariables false
/-- what is met first, by trying all -/
def firstS (o d : VL) (tris : List TL) : WS := leafS (hitAt o d tris) (List.range tris.length) st0
theorem first_best (o d : VL) (tris : List TL) : Bst (hitAt o d tris) (fun j => j < tris.length) (firstS o d tris) :=
  (Bst.leaf (List.range tris.length) (A := fun _ => False) (st := st0) (.inl ⟨rfl, fun _ h => h.elim⟩)).congr fun j => by simp
theorem near_first {o d : VL} {order : List Nat} {tris : List TL} {n : Nat} {t : TR} (hh : t.held order tris) (hs : ∀ j, j ∈ t.set order ↔ j < tris.length) : nearS o d order tris n t = firstS o d tris :=
  ((near_best hh).congr hs).same (first_best o d tris)
theorem order_get {n j i : Nat} (h : (List.range n)[j]? = some i) : Ω .sget (orderD n) j = some (.i .i64 (Ω .ci i)) := by
  rw [w_sget, orderD, List.getElem?_map, h]; rfl
theorem nodes_get {l : List NodeL} {i : Nat} {n : NodeL} (h : l[i]? = some n) : Ω .sget (nodesD l) i = some (.agg (dNode Ψ n)) := by
  rw [w_sget, nodesD, List.getElem?_map, h]; rfl
theorem walkH11 {tris : List TL} {TD : List D} (T' : TriH tris TD) : WalkH (List.range tris.length) tris (orderD tris.length) TD :=
  ⟨fun j i h => order_get h, by rw [orderD_len, List.length_range], fun i h => List.mem_range.1 h, T'.t, T'.tl, by rw [List.length_range]; have := T'.ts; omega, by have := T'.ts; omega⟩
theorem first_ok {o d : VL} {tris : List TL} {k : Nat} (ho : Vn k o) (hd : Vn k d) (ht : ∀ t, t ∈ tris → Tn k t) (hk : 0 < k) (hts : tris.length < 1099511627776) : WOk (60 * k + 60) (firstS o d tris) :=
  leafS_ok ho hd ht hk hts _ _ (st0_ok hk)
theorem Bn_leafN {tris : List TL} {k : Nat} (ht : ∀ t, t ∈ tris → Tn k t) (hk : 0 < k) {i : Nat} (h : i < tris.length) : Bn k (leafN (tlAt tris i) i).box := by
  have htt := ht _ (List.getElem_mem h)
  have e : tlAt tris i = tris[i] := by unfold tlAt; rw [List.getElem?_eq_getElem h]; rfl
  rw [e]
  refine Bn_cB (Bq_joins hk _ fun b hb => ?_)
  obtain ⟨v, hv, rfl⟩ := List.mem_map.1 hb
  rcases mem3 hv with rfl | rfl | rfl
  · exact ⟨htt.a, htt.a⟩
  · exact ⟨htt.b, htt.b⟩
  · exact ⟨htt.c, htt.c⟩
theorem Bn_innerN {tris : List TL} {k : Nat} (ht : ∀ t, t ∈ tris → Tn k t) (hk : 0 < k) (i : Nat) : Bn k (innerN tris i).box := by
  refine Bn_cB (Bq_joins hk _ fun b hb => ?_)
  obtain ⟨v, hv, rfl⟩ := List.mem_map.1 hb
  obtain ⟨u, hu, hv⟩ := List.mem_flatMap.1 hv
  have hu' := ht u (List.mem_of_mem_drop hu)
  rcases mem3 hv with rfl | rfl | rfl
  · exact ⟨hu'.a, hu'.a⟩
  · exact ⟨hu'.b, hu'.b⟩
  · exact ⟨hu'.c, hu'.c⟩
theorem Bn_treeN {tris : List TL} {k : Nat} (ht : ∀ t, t ∈ tris → Tn k t) (hk : 0 < k) : ∀ n, n ∈ treeN tris tris.length → Bn k n.box := fun n hn => by
  obtain ⟨i, hi, hn⟩ := List.mem_flatMap.1 hn
  rw [treeAt_some tris (List.mem_range.1 hi)] at hn
  split at hn
  · rcases List.mem_cons.1 hn with rfl | hn
    · exact Bn_innerN ht hk i
    · rw [List.mem_singleton.1 hn]; exact Bn_leafN ht hk (List.mem_range.1 hi)
  · rw [List.mem_singleton.1 hn]; exact Bn_leafN ht hk (List.mem_range.1 hi)
end Go.K
namespace Go.K.S
open Go Go.K
set_option maxHeartbeats 8000000
set_option maxRecDepth 20000
set_option linter.unusedVariables false
set_option linter.unusedSimpArgs false
theorem nearest_all {tris : List TL} {TD : List D} (T' : TriH tris TD) (o d : VL) {k : Nat} (ho : Vn k o) (hd : Vn k d) (ht : ∀ t, t ∈ tris → Tn k t) (hk : 0 < k) (hk2 : k < 134217728) :
      Good P F.trace_Nearest [.d (.agg [.sl (nodesD (treeN tris tris.length)), .sl (orderD tris.length)]), .d (.sl TD), .d (.agg (dV Ψ o)), .d (.agg (dV Ψ d))] []
        (.tup [.d (.i .i64 (firstS o d tris).best), .d (.agg (dM Ψ (Ψ .cM (firstS o d tris).m))), .d (.b (decide (0 ≤ (firstS o d tris).best)))]) [] := by
  have ts := T'.ts
  rcases Nat.eq_zero_or_pos tris.length with h0 | h0
  · have : tris = [] := List.eq_nil_of_length_eq_zero h0
    subst this
    exact nearest_none o d
  · have hn := treeN_all tris h0
    have hf := chain_fit tris (tris.length - 1) 0 (by omega)
    have hh := chain_held tris (tris.length - 1) 0 (by omega)
    have hs := chain_set tris (tris.length - 1) 0 (by omega)
    have g := nearest_good (walkH11 T') (ND := nodesD (treeN tris tris.length)) ⟨fun i n h => nodes_get h, nodesD_len _, by omega⟩ o d ho hd ht (Bn_treeN ht hk) hk hk2 (chainT tris 0 (tris.length - 1)) hf (chainT_ix _ _ _)
    rw [near_first hh (fun j => by rw [hs]; omega)] at g
    exact g
theorem blocked_all {tris : List TL} {TD : List D} (T' : TriH tris TD) (p q : VL) {k : Nat} (hp : Vn k p) (hq : Vn k q) (ht : ∀ t, t ∈ tris → Tn k t) (hk : 0 < k) (hk2 : k < 33554432) :
      Good P F.trace_Blocked [.d (.agg [.sl (nodesD (treeN tris tris.length)), .sl (orderD tris.length)]), .d (.sl TD), .d (.agg (dV Ψ p)), .d (.agg (dV Ψ q))] []
        (.d (.b (decide (0 ≤ (firstS p (Ψ .cV (vsub (vv q) (vv p))) tris).best) && decide ((firstS p (Ψ .cV (vsub (vv q) (vv p))) tris).m.s < 1)))) [] := by
  refine G.trace_Blocked fun C C2 hC hC2 => ?_
  have ts := T'.ts
  have g0 := vsub_good q p hq hp hk (by omega)
  have pd := (Pn_sub (Pn_vv hq hk) (Pn_vv hp hk)).mono (show _ ≤ 3 * k by omega)
  have g1 := nearest_all T' p (Ψ .cV (vsub (vv q) (vv p))) (k := 3 * k) (hp.mono (by omega)) (Vn_cV pd) (fun t h => (ht t h).mono (by omega)) (by omega) (by omega)
  have g2 := of11_good
  have ok := first_ok (o := p) (d := Ψ .cV (vsub (vv q) (vv p))) (k := 3 * k) (hp.mono (by omega)) (Vn_cV pd) (fun t h => (ht t h).mono (by omega)) (by omega) (by omega)
  have g3 := rcmp_good (Ψ .cr (firstS p (Ψ .cV (vsub (vv q) (vv p))) tris).m.s) (Ψ .cr 1) (Rn_cr.2 ok.s) (Rn_cr.2 (Qn_one (k := 1) (by omega))) (by omega) (by omega)
  rw [rv_cr, rv_cr] at g3
  clear ok pd
  generalize firstS p (Ψ .cV (vsub (vv q) (vv p))) tris = r at *
  generalize nodesD (treeN tris tris.length) = ND at *
  generalize orderD tris.length = OD at *
  have z := @cI_neg r.m.s 1
  generalize Ψ .cI r.m.s 1 = i at *
  generalize Ψ .cV (vsub (vv q) (vv p)) = dd at *
  by_cases h0 : 0 ≤ r.best
  · rw [decide_eq_true h0] at g1 ⊢
    rw [Bool.true_and]
    by_cases h1 : r.m.s < 1
    · rw [decide_eq_true h1]
      have h1' := lt_true.2 (z.2 h1)
      exact rk trivial
    · rw [decide_eq_false h1]
      have h1' := lt_false.2 (Int.not_lt.1 (mt z.1 h1))
      exact rk trivial
  · rw [decide_eq_false h0] at g1 ⊢
    rw [Bool.false_and]
    exact rk trivial
def unitT : TL := ⟨Ψ .cV ⟨((0 : Int) : Rat), ((0 : Int) : Rat), ((0 : Int) : Rat)⟩, Ψ .cV ⟨((1 : Int) : Rat), ((0 : Int) : Rat), ((0 : Int) : Rat)⟩, Ψ .cV ⟨((0 : Int) : Rat), ((1 : Int) : Rat), ((0 : Int) : Rat)⟩⟩
def unit3 : T3 := ⟨⟨((0 : Int) : Rat), ((0 : Int) : Rat), ((0 : Int) : Rat)⟩, ⟨((1 : Int) : Rat), ((0 : Int) : Rat), ((0 : Int) : Rat)⟩, ⟨((0 : Int) : Rat), ((1 : Int) : Rat), ((0 : Int) : Rat)⟩⟩
theorem unit_tv : tv unitT = unit3 := by
  simp only [tv, unitT, vv_cV]; rfl
theorem unit_good : Good P F.penumbralaw12_unit [] [] (.d (.agg (dT Ψ unitT))) [] := by
  refine G.penumbralaw12_unit fun C C2 hC hC2 => ?_
  have g1 := vof_good 0 0 0 (by omega) (by omega) (by omega) (by omega) (by omega) (by omega)
  have g2 := vof_good 1 0 0 (by omega) (by omega) (by omega) (by omega) (by omega) (by omega)
  have g3 := vof_good 0 1 0 (by omega) (by omega) (by omega) (by omega) (by omega) (by omega)
  unfold unitT
  generalize Ψ .cV ⟨((0 : Int) : Rat), ((0 : Int) : Rat), ((0 : Int) : Rat)⟩ = a at *
  generalize Ψ .cV ⟨((1 : Int) : Rat), ((0 : Int) : Rat), ((0 : Int) : Rat)⟩ = b at *
  generalize Ψ .cV ⟨((0 : Int) : Rat), ((1 : Int) : Rat), ((0 : Int) : Rat)⟩ = c at *
  exact rk trivial
end Go.K.S
namespace Go.K
open Go Go.K.S
instance : DecidableEq M3 := fun _ _ => decidable_of_iff _ M3.ext_iff'.symm
theorem take_two (m : M3) : takeS (some m) 1 (takeS (some m) 0 st0) = ⟨0, m⟩ := by
  have h0 : takeS (some m) 0 st0 = ⟨0, m⟩ := by
    unfold takeS
    simp only
    rw [if_neg (fun q => absurd q.1 (by show ¬ (0 : Int) ≤ -1; omega))]
    rfl
  rw [h0]
  unfold takeS
  simp only
  rw [if_pos ⟨by omega, .inr ⟨trivial, by omega⟩⟩]
def vI (x y z : Int) : V3 := ⟨(x : Rat), (y : Rat), (z : Rat)⟩
theorem first_two (o d : V3) : firstS (Ψ .cV o) (Ψ .cV d) [unitT, unitT] = takeS (hitS o d unit3) 1 (takeS (hitS o d unit3) 0 st0) := by
  have h0 : hitAt (Ψ .cV o) (Ψ .cV d) [unitT, unitT] 0 = hitS o d unit3 := by
    show hitS (vv (Ψ .cV o)) (vv (Ψ .cV d)) (tv unitT) = _
    rw [vv_cV, vv_cV, unit_tv]
  have h1 : hitAt (Ψ .cV o) (Ψ .cV d) [unitT, unitT] 1 = hitS o d unit3 := by
    show hitS (vv (Ψ .cV o)) (vv (Ψ .cV d)) (tv unitT) = _
    rw [vv_cV, vv_cV, unit_tv]
  show takeS _ 1 (takeS _ 0 st0) = _
  rw [h0, h1]
theorem t1 : hitS (vI 0 0 2) (vI 0 0 (-1)) unit3 = some ⟨2, 0, 0⟩ := by decide +kernel
theorem t2 : hitS (vI 0 0 0) (vI 1 1 0) unit3 = none := by decide +kernel
theorem t3 : hitS (vI 0 0 1) (vsub (vI 0 0 (-1)) (vI 0 0 1)) unit3 = some ⟨1 / 2, 0, 0⟩ := by decide +kernel
theorem f1 : firstS (Ψ .cV (vI 0 0 2)) (Ψ .cV (vI 0 0 (-1))) [unitT, unitT] = ⟨0, ⟨2, 0, 0⟩⟩ := by
  rw [first_two, t1, take_two]
theorem f2 : firstS (Ψ .cV (vI 0 0 0)) (Ψ .cV (vI 1 1 0)) [unitT, unitT] = st0 := by
  rw [first_two, t2]; rfl
theorem f3 : firstS (Ψ .cV (vI 0 0 1)) (Ψ .cV (vsub (vI 0 0 (-1)) (vI 0 0 1))) [unitT, unitT] = ⟨0, ⟨1 / 2, 0, 0⟩⟩ := by
  rw [first_two, t3, take_two]
theorem Pn_vI {x y z : Int} (hx : x.natAbs < 4294967296) (hy : y.natAbs < 4294967296) (hz : z.natAbs < 4294967296) : Pn 1 (vI x y z) := ⟨Qn_int hx, Qn_int hy, Qn_int hz⟩
theorem triH_two {t : TL} : TriH [t, t] [.agg (dT Ψ t), .agg (dT Ψ t)] :=
  ⟨fun i u h => by
    match i, h with
    | 0, h => cases h; rfl
    | 1, h => cases h; rfl
    | i + 2, h => simp at h, rfl, by simp⟩
end Go.K
namespace Go.K.S
open Go Go.K
set_option maxHeartbeats 8000000
set_option maxRecDepth 20000
set_option linter.unusedVariables false
set_option linter.unusedSimpArgs false
theorem fixed12_good : Good P F.penumbralaw12_fixed [] [] (.d (.b true)) [] := by
  refine G.penumbralaw12_fixed fun C C2 hC hC2 => ?_
  have gu := unit_good
  have T' := triH_two (t := unitT)
  have hu : Tn 1 unitT := ⟨Vn_cV (Pn_vI (by decide) (by decide) (by decide)), Vn_cV (Pn_vI (x := 1) (y := 0) (z := 0) (by decide) (by decide) (by decide)), Vn_cV (Pn_vI (x := 0) (y := 1) (z := 0) (by decide) (by decide) (by decide))⟩
  have ht : ∀ t, t ∈ [unitT, unitT] → Tn 1 t := fun t h => by rcases mem2 h with rfl | rfl <;> exact hu
  have gt := tree_good T' ht (by omega) (by omega)
  have n1 := nearest_all T' (Ψ .cV (vI 0 0 2)) (Ψ .cV (vI 0 0 (-1))) (k := 1) (Vn_cV (Pn_vI (by decide) (by decide) (by decide))) (Vn_cV (Pn_vI (by decide) (by decide) (by decide))) ht (by omega) (by omega)
  have n2 := nearest_all T' (Ψ .cV (vI 0 0 0)) (Ψ .cV (vI 1 1 0)) (k := 1) (Vn_cV (Pn_vI (by decide) (by decide) (by decide))) (Vn_cV (Pn_vI (by decide) (by decide) (by decide))) ht (by omega) (by omega)
  have b1 := blocked_all T' (Ψ .cV (vI 0 0 1)) (Ψ .cV (vI 0 0 (-1))) (k := 1) (Vn_cV (Pn_vI (by decide) (by decide) (by decide))) (Vn_cV (Pn_vI (by decide) (by decide) (by decide))) ht (by omega) (by omega)
  rw [vv_cV, vv_cV, f3] at b1
  rw [f1] at n1
  rw [f2] at n2
  have g1 := vof_good 0 0 2 (by omega) (by omega) (by omega) (by omega) (by omega) (by omega)
  have g2 := vof_good 0 0 (-1) (by omega) (by omega) (by omega) (by omega) (by omega) (by omega)
  have g3 := vof_good 0 0 0 (by omega) (by omega) (by omega) (by omega) (by omega) (by omega)
  have g4 := vof_good 1 1 0 (by omega) (by omega) (by omega) (by omega) (by omega) (by omega)
  have g5 := vof_good 0 0 1 (by omega) (by omega) (by omega) (by omega) (by omega) (by omega)
  have g6 := of3_good 2 1 (by omega) (by omega) (by omega) (by omega)
  have e2 : ((2 : Int) : Rat) / ((1 : Int) : Rat) = 2 := by decide +kernel
  rw [e2] at g6
  have q2 : Qn 1 2 := Qn_int (n := 2) (by decide)
  have g7 := is3_good (Ψ .cr 2) (Ψ .cr 2) (Rn_cr.2 q2) (Rn_cr.2 q2) (by omega) (by omega)
  rw [decide_eq_true rfl] at g7
  have hb : (decide ((0 : Int) ≤ 0) && decide ((1 / 2 : Rat) < 1)) = true := by decide +kernel
  simp only [hb] at b1
  have hd1 : decide ((0 : Int) ≤ 0) = true := rfl
  have hd2 : decide (0 ≤ st0.best) = false := rfl
  simp only [hd1] at n1
  rw [hd2] at n2
  have hm : Ψ .cM ⟨2, 0, 0⟩ = ⟨Ψ .cr 2, Ψ .cr 0, Ψ .cr 0⟩ := rfl
  simp only [hm] at n1
  change Good P F.vec_Of _ _ (.d (.agg (dV Ψ (Ψ .cV (vI 0 0 2))))) _ at g1
  change Good P F.vec_Of _ _ (.d (.agg (dV Ψ (Ψ .cV (vI 0 0 (-1)))))) _ at g2
  change Good P F.vec_Of _ _ (.d (.agg (dV Ψ (Ψ .cV (vI 0 0 0))))) _ at g3
  change Good P F.vec_Of _ _ (.d (.agg (dV Ψ (Ψ .cV (vI 1 1 0))))) _ at g4
  change Good P F.vec_Of _ _ (.d (.agg (dV Ψ (Ψ .cV (vI 0 0 1))))) _ at g5
  generalize nodesD (treeN [unitT, unitT] [unitT, unitT].length) = ND at *
  generalize orderD [unitT, unitT].length = OD at *
  generalize Ψ .cV (vI 0 0 2) = w1 at *
  generalize Ψ .cV (vI 0 0 (-1)) = w2 at *
  generalize Ψ .cV (vI 0 0 0) = w3 at *
  generalize Ψ .cV (vI 1 1 0) = w4 at *
  generalize Ψ .cV (vI 0 0 1) = w5 at *
  clear T' hu ht q2 hb hd1 hd2 hm e2
  generalize unitT = u at *
  exact rk trivial
end Go.K.S
end
section
/-
  The law TraceMore, as a contract.
-/
namespace Go.K
open Go Go.K.S
set_option linter.unusedVariables false
theorem leafS_congr {h h' : Nat → Option M3} : ∀ (l : List Nat) (st : WS), (∀ j, j ∈ l → h j = h' j) → leafS h l st = leafS h' l st
  | [], st, _ => rfl
  | i :: l, st, e => by
    show leafS h l (takeS (h i) i st) = leafS h' l (takeS (h' i) i st)
    rw [e i (by simp)]
    exact leafS_congr l _ fun j hj => e j (by simp [hj])
theorem first_snoc (o d : VL) (tris : List TL) (t : TL) : firstS o d (tris ++ [t]) = takeS (hitS (vv o) (vv d) (tv t)) tris.length (firstS o d tris) := by
  unfold firstS
  rw [List.length_append, List.length_singleton, List.range_succ, leafS_snoc]
  have e1 : hitAt o d (tris ++ [t]) tris.length = hitS (vv o) (vv d) (tv t) := by
    unfold hitAt; rw [List.getElem?_append_right (Nat.le_refl _)]; simp
  have e2 : leafS (hitAt o d (tris ++ [t])) (List.range tris.length) st0 = leafS (hitAt o d tris) (List.range tris.length) st0 := leafS_congr _ _ fun j hj => by
    unfold hitAt; rw [List.getElem?_append_left (List.mem_range.1 hj)]
  rw [e1, e2]
theorem first_cases (o d : VL) (tris : List TL) : firstS o d tris = st0 ∨ ∃ i : Nat, i < tris.length ∧ (firstS o d tris).best = (i : Int) ∧ hitAt o d tris i = some (firstS o d tris).m := by
  rcases first_best o d tris with ⟨e, _⟩ | ⟨i, h1, h2, h3, _⟩
  · exact .inl e
  · exact .inr ⟨i, h2, h1, h3⟩
theorem triH_of {tris : List TL} (h : tris.length < 268435456) : TriH tris (tris.map fun t => .agg (dT Ψ t)) :=
  ⟨fun i t ht => by rw [w_sget, List.getElem?_map, ht]; rfl, by rw [w_slen, List.length_map], h⟩
theorem triH_snoc {tris : List TL} {TD : List D} (e : TD = tris.map fun t => .agg (dT Ψ t)) (t : TL) (h : tris.length + 1 < 268435456) : TriH (tris ++ [t]) (Ω .scat (Ω .scat [] TD) [.agg (dT Ψ t)]) := by
  have : Ω .scat (Ω .scat [] TD) [.agg (dT Ψ t)] = (tris ++ [t]).map fun t => .agg (dT Ψ t) := by rw [e]; simp [w_scat]
  rw [this]
  exact triH_of (by simpa using h)
theorem Mn_hit {o d : VL} {tris : List TL} {k : Nat} (ho : Vn k o) (hd : Vn k d) (ht : ∀ t, t ∈ tris → Tn k t) (hk : 0 < k) {i : Nat} {m : M3} (h : hitAt o d tris i = some m) : Mn (60 * k + 60) (Ψ .cM m) := by
  unfold hitAt at h
  cases htr : tris[i]? with
  | none => rw [htr] at h; cases h
  | some t =>
    rw [htr] at h
    obtain ⟨a, b, c⟩ := Qn_hit ho hd (ht t (List.mem_of_getElem? htr)) hk h
    exact ⟨Rn_cr.2 a, Rn_cr.2 b, Rn_cr.2 c⟩
end Go.K
namespace Go.K.S
open Go Go.K
set_option maxHeartbeats 8000000
set_option maxRecDepth 20000
set_option linter.unusedVariables false
set_option linter.unusedSimpArgs false

theorem traceMore_good (l : List TL) (r : VL × VL) (t : TL) (hl : l.length ≤ 1048576 ∧ ∀ t, t ∈ l → Tn 1048576 t) (hr : Vn 1048576 r.1 ∧ Vn 1048576 r.2) (ht : Tn 1048576 t) :
    Good P F.penumbralaw12_TraceMore [.d (.sl (l.map fun t => .agg (dT Ψ t))), .d (.agg (dV Ψ r.1 ++ dV Ψ r.2)), .d (.agg (dT Ψ t))] [] (.d (.b true)) [] := by
  refine G.penumbralaw12_TraceMore fun C C2 hC hC2 => ?_
  obtain ⟨o, d⟩ := r
  obtain ⟨ho, hd⟩ := hr
  obtain ⟨hln, hl⟩ := hl
  simp only at ho hd ⊢
  have gf := fixed12_good
  have T1 := triH_of (tris := l) (by omega)
  obtain ⟨TD, hTD⟩ : ∃ TD, TD = l.map fun t => (.agg (dT Ψ t) : D) := ⟨_, rfl⟩
  rw [← hTD] at T1 ⊢
  have tl := T1.tl
  by_cases h60 : 60 < l.length
  · have q : Ω .lt 60 (Ω .ci (Ω .slen TD)) = true := by rw [tl]; simp only [wz]; omega
    exact rk trivial
  have q : Ω .lt 60 (Ω .ci (Ω .slen TD)) = false := by rw [tl]; simp only [wz]; omega
  have T2 := triH_snoc hTD t (by omega)
  have hl2 : ∀ u, u ∈ l ++ [t] → Tn 1048576 u := fun u hu => by
    rcases List.mem_append.1 hu with h | h
    · exact hl u h
    · rw [List.mem_singleton.1 h]; exact ht
  have gt1 := tree_good T1 hl (by omega) (by omega)
  have gt2 := tree_good T2 hl2 (by omega) (by omega)
  have gn1 := nearest_all T1 o d ho hd hl (by omega) (by omega)
  have gn2 := nearest_all T2 o d ho hd hl2 (by omega) (by omega)
  have gh := hit_good o d t ho hd ht (by omega) (by omega)
  have hcell : ∀ u, u ∈ TD → u.cells.length = 27 := fun u hu => by
    rw [hTD] at hu
    obtain ⟨v, _, rfl⟩ := List.mem_map.1 hu
    rfl
  have hsn := first_snoc o d l t
  have hca := first_cases o d l
  have hM := fun i m h => Mn_hit (i := i) (m := m) ho hd hl (by omega) h
  generalize nodesD (treeN l l.length) = N1 at *
  generalize orderD l.length = O1 at *
  generalize nodesD (treeN (l ++ [t]) (l ++ [t]).length) = N2 at *
  generalize orderD (l ++ [t]).length = O2 at *
  generalize firstS o d l = a at *
  generalize firstS o d (l ++ [t]) = b at *
  have q1 : Ω .eq (-1) (Ω .ci (Ω .slen TD)) = false := by rw [tl]; simp only [wz]; omega
  have q2 : Ω .eq (Ω .ci l.length) (Ω .ci (Ω .slen TD)) = true := by rw [tl]; simp only [wz]
  cases hS : hitS (vv o) (vv d) (tv t) with
  | none =>
    rw [hS] at hsn
    have h1 : hitOk (vv o) (vv d) (tv t) = false := by unfold hitOk; rw [hS]; rfl
    rw [h1] at gh
    generalize hitM (vv o) (vv d) (tv t) = x at *
    have hb : b = a := hsn
    subst hb
    rcases hca with e | ⟨i, hi, hb, hh⟩
    · subst e
      change Good P _ _ _ (.tup [.d (.i .i64 (-1)), _, .d (.b false)]) _ at gn1
      change Good P _ _ _ (.tup [.d (.i .i64 (-1)), _, .d (.b false)]) _ at gn2
      exact rk trivial
    · have mn := hM i _ hh
      have gis := is8_good (Ψ .cM b.m) (Ψ .cM b.m) mn mn (by omega) (by omega)
      rw [decide_eq_true rfl] at gis
      rw [hb, decide_eq_true (by omega)] at gn1 gn2
      change Good P _ _ _ (.tup [.d (.i .i64 (Ω .ci i)), _, _]) _ at gn1
      change Good P _ _ _ (.tup [.d (.i .i64 (Ω .ci i)), _, _]) _ at gn2
      have q3 : Ω .eq (Ω .ci i) (Ω .ci (Ω .slen TD)) = false := by rw [tl]; simp only [wz]; omega
      have q4 : Ω .eq (Ω .ci i) (Ω .ci i) = true := by simp only [wz]
      exact rk trivial
  | some x =>
    rw [hS] at hsn
    have h1 : hitOk (vv o) (vv d) (tv t) = true := by unfold hitOk; rw [hS]; rfl
    have h2 : hitM (vv o) (vv d) (tv t) = x := by unfold hitM; rw [hS]; rfl
    rw [h1, h2] at gh
    obtain ⟨x1, x2, x3⟩ := Qn_hit ho hd ht (by omega) hS
    have mx : Mn (60 * 1048576 + 60) (Ψ .cM x) := ⟨Rn_cr.2 x1, Rn_cr.2 x2, Rn_cr.2 x3⟩
    have gix := is8_good (Ψ .cM x) (Ψ .cM x) mx mx (by omega) (by omega)
    rw [decide_eq_true rfl] at gix
    unfold takeS at hsn
    simp only at hsn
    rcases hca with e | ⟨i, hi, hb, hh⟩
    · subst e
      rw [if_neg (fun q => absurd q.1 (by show ¬ (0 : Int) ≤ -1; omega))] at hsn
      subst hsn
      change Good P _ _ _ (.tup [.d (.i .i64 (-1)), _, .d (.b false)]) _ at gn1
      simp only [decide_eq_true (show (0 : Int) ≤ (l.length : Int) by omega)] at gn2
      change Good P _ _ _ (.tup [.d (.i .i64 (Ω .ci l.length)), _, _]) _ at gn2
      exact rk trivial
    · have mn := hM i _ hh
      have gis := is8_good (Ψ .cM a.m) (Ψ .cM a.m) mn mn (by omega) (by omega)
      rw [decide_eq_true rfl] at gis
      have q3 : Ω .eq (Ω .ci i) (Ω .ci (Ω .slen TD)) = false := by rw [tl]; simp only [wz]; omega
      have q4 : Ω .eq (Ω .ci i) (Ω .ci i) = true := by simp only [wz]
      have c1 := rcmp_good (Ψ .cM x).s (Ψ .cM a.m).s mx.s mn.s (by omega) (by omega)
      have c2 := rcmp_good (Ψ .cM a.m).s (Ψ .cM x).s mn.s mx.s (by omega) (by omega)
      have e1 : rv (Ψ .cM x).s = x.s := rv_cr _
      have e2 : rv (Ψ .cM a.m).s = a.m.s := rv_cr _
      rw [e1, e2] at c1 c2
      by_cases hle : a.m.s ≤ x.s
      · rw [if_pos ⟨by omega, by rcases (show a.m.s < x.s ∨ x.s = a.m.s by grind) with h | h; exact .inl h; exact .inr ⟨h, by omega⟩⟩] at hsn
        subst hsn
        rw [hb, decide_eq_true (by omega)] at gn1 gn2
        change Good P _ _ _ (.tup [.d (.i .i64 (Ω .ci i)), _, _]) _ at gn1
        change Good P _ _ _ (.tup [.d (.i .i64 (Ω .ci i)), _, _]) _ at gn2
        have q5 := le_true.2 (cI_nonpos.2 hle)
        generalize Ψ .cI b.m.s x.s = ic at *
        exact rk trivial
      · rw [if_neg (fun q => by rcases q.2 with h | h <;> grind)] at hsn
        subst hsn
        rw [hb, decide_eq_true (by omega)] at gn1
        change Good P _ _ _ (.tup [.d (.i .i64 (Ω .ci i)), _, _]) _ at gn1
        simp only [decide_eq_true (show (0 : Int) ≤ (l.length : Int) by omega)] at gn2
        change Good P _ _ _ (.tup [.d (.i .i64 (Ω .ci l.length)), _, _]) _ at gn2
        have q5 := lt_true.2 (cI_neg.2 (show x.s < a.m.s by grind))
        generalize Ψ .cI x.s a.m.s = ic at *
        exact rk trivial
end Go.K.S
end
