/-
  Parts of the proof, joined by a program of this work: KLawBoxesMeet, KTrace, KTrace2, KTrace3, KTreeR, KLawTraceQ, KTrace4, KBvhS, KBvh1, KBvh2, KBvhP, KBvh3, KBvhQ, KBvh4.
-/
import Derived.Test.YtjoimiljaljgcaaGreatMbl
import Derived.Test.YtjoimiljaljgcaaGreatMbi
set_option linter.unusedSimpArgs false
set_option linter.unusedVariables false
set_option maxHeartbeats 8000000
set_option maxRecDepth 20000
section
namespace Go.K
open Go Go.K.S
theorem btw_mix {a b c u v lo hi : Rat} (ha : btw a lo hi) (hb : btw b lo hi) (hc : btw c lo hi) (hu : 0 ≤ u) (hv : 0 ≤ v) (huv : u + v ≤ 1) : btw (a + u * (b - a) + v * (c - a)) lo hi := by
 unfold btw at *
 have p1 := Rat.mul_nonneg hu (show 0 ≤ b - lo by grind)
 have p2 := Rat.mul_nonneg hv (show 0 ≤ c - lo by grind)
 have p3 := Rat.mul_nonneg (show 0 ≤ 1 - u - v by grind) (show 0 ≤ a - lo by grind)
 have q1 := Rat.mul_nonneg hu (show 0 ≤ hi - b by grind)
 have q2 := Rat.mul_nonneg hv (show 0 ≤ hi - c by grind)
 have q3 := Rat.mul_nonneg (show 0 ≤ 1 - u - v by grind) (show 0 ≤ hi - a by grind)
 constructor <;> grind
theorem hit_point {o d : V3} {t : T3} {m : M3} (h : hitS o d t = some m) : d ≠ v0 ∧ 0 < m.s ∧ 0 ≤ m.u ∧ 0 ≤ m.v ∧ m.u + m.v ≤ 1 ∧ vat o d m.s = vadd t.a (vadd (vmul m.u (vsub t.b t.a)) (vmul m.v (vsub t.c t.a))) := by
 unfold hitS at h
 split at h
 ·cases h
 rename_i h0
 split at h
 ·cases h
 rename_i hu
 split at h
 ·cases h
 rename_i hr
 cases h
 have hd : d ≠ v0 := fun h => h0 (by subst h; unfold vdot vcross v0; grind)
 simp only
 refine ⟨hd, by grind, by grind, by grind, by grind, ?_⟩
 have e : ∀ f b c d : V3, vadd (vmul (vdot b (vcross d c)) f) (vmul (vdot c (vcross f b)) d) = vadd (vmul (vdot f (vcross d c)) b) (vmul (vdot d (vcross f b)) c) := fun f b c d => by
  unfold vadd vmul vdot vcross; simp only [V3.mk.injEq]; refine ⟨?_, ?_, ?_⟩ <;> grind
 have e1 := e (vsub o t.a) (vsub t.b t.a) (vsub t.c t.a) d
 have ho : o = vadd t.a (vsub o t.a) := by
  obtain ⟨x, y, z⟩ := o
  unfold vadd vsub; simp only [V3.mk.injEq]; refine ⟨?_, ?_, ?_⟩ <;> grind
 generalize vsub t.b t.a = b at *
 generalize vsub t.c t.a = c at *
 generalize vsub o t.a = f at *
 generalize vdot b (vcross d c) = det at *
 generalize vdot f (vcross d c) = fp at *
 generalize vdot d (vcross f b) = dq at *
 generalize vdot c (vcross f b) = cq at *
 rw [ho]
 unfold vadd vmul at e1
 simp only [V3.mk.injEq] at e1
 obtain ⟨e2, e3, e4⟩ := e1
 unfold vat vadd vmul; simp only [V3.mk.injEq]; refine ⟨?_, ?_, ?_⟩ <;> grind
theorem Qn_hit {o d : VL} {t : TL} {k : Nat} (ho : Vn k o) (hd : Vn k d) (ht : Tn k t) (hk : 0 < k) {m : M3} (h : hitS (vv o) (vv d) (tv t) = some m) : Qn (60 * k + 60) m.s ∧ Qn (60 * k + 60) m.u ∧ Qn (60 * k + 60) m.v := by
 unfold hitS at h
 split at h
 ·cases h
 split at h
 ·cases h
 split at h
 ·cases h
 cases h
 have po := Pn_vv ho hk
 have pd := Pn_vv hd hk
 have pa := Pn_vv ht.a hk
 have pb := Pn_sub (Pn_vv ht.b hk) pa
 have pc := Pn_sub (Pn_vv ht.c hk) pa
 have pp := Pn_cross pd pc (by omega)
 have qdet := (Qn_dot pb pp (by omega)).mono (show _ ≤ 24 * k + 14 by omega)
 have qk := (Qn_div (Qn_one (k := 1) (by omega)) qdet (by omega)).mono (show _ ≤ 24 * k + 15 by omega)
 have pf := Pn_sub po pa
 have qfp := (Qn_dot pf pp (by omega)).mono (show _ ≤ 24 * k + 14 by omega)
 have pq := Pn_cross pf pb (by omega)
 have qdq := (Qn_dot pd pq (by omega)).mono (show _ ≤ 30 * k + 20 by omega)
 have qcq := (Qn_dot pc pq (by omega)).mono (show _ ≤ 32 * k + 24 by omega)
 exact ⟨(Qn_mul qk qcq (by omega)).mono (by omega), (Qn_mul qk qfp (by omega)).mono (by omega), (Qn_mul qk qdq (by omega)).mono (by omega)⟩
end Go.K
namespace Go.K.S
open Go Go.K
end Go.K.S
end
section
namespace Go.K
open Go
structure NodeL where
 box : BL
 left : Int
 right : Int
 from' : Int
 count : Int
def dNode (Ψ : (t : Sd) → STy t) (n : NodeL) : List D := dB Ψ n.box ++ [.i .i64 n.left, .i .i64 n.right, .i .i64 n.from', .i .i64 n.count]
def wc (Ψ : (t : Sd) → STy t) (ND OD TD : List D) (o d : VL) (best : Int) (m : ML) : List V :=
 V.d (.sl ND) :: V.d (.sl OD) :: V.d (.sl TD) :: ((dV Ψ o).map V.d ++ (dV Ψ d).map V.d ++ [V.d (.i .i64 best), V.own 1 1] ++ (dM Ψ m).map V.d)
end Go.K
namespace Go.K.S
open Go Go.K
theorem past_good {ND OD TD S : List D} (o d : VL) (best : Int) (m : ML) (s : RL) {k : Nat} (hm : Rn k m.s) (hs : Rn k s) (hk : k < 68719476736) :
  Good P F.P_trace_walker_past [.ptr 0 0, .agg ((dR Ψ s).map V.d)] [.var (wc Ψ ND OD TD o d best m), .row true T.bool 1 S] (.d (.b (decide (0 ≤ best) && decide (rv m.s < rv s)))) [.var (wc Ψ ND OD TD o d best m), .row true T.bool 1 S] := by
 refine G.P_trace_walker_past (hb := of_decide_eq_true rfl) fun C C2 hC hC2 => ?_
 have g := rcmp_good s m.s hs hm hk hk
 have z := @cI_pos (rv s) (rv m.s)
 generalize Ψ .cI (rv s) (rv m.s) = i at *
 by_cases h0 : 0 ≤ best
 ·rw [decide_eq_true h0, Bool.true_and]
  have h0' := le_true.2 h0
  by_cases h1 : rv m.s < rv s
  ·rw [decide_eq_true h1]
   have h1' := lt_true.2 (z.2 h1)
   refine rk ?_
   exact ⟨[], rfl, rfl, rfl⟩
  ·rw [decide_eq_false h1]
   have h1' := lt_false.2 (Int.not_lt.1 (mt z.1 h1))
   refine rk ?_
   exact ⟨[], rfl, rfl, rfl⟩
 ·rw [decide_eq_false h0, Bool.false_and]
  have h0' := le_false.2 (Int.not_le.1 h0)
  refine rk ?_
  exact ⟨[], rfl, rfl, rfl⟩
end Go.K.S
namespace Go.K
structure WS where
 best : Int
 m : M3
def takeS (h : Option M3) (i : Nat) (st : WS) : WS := match h with
 | none => st
 | some m => if 0 ≤ st.best ∧ (st.m.s < m.s ∨ (m.s = st.m.s ∧ st.best < (i : Int))) then st else ⟨i, m⟩
def leafS (h : Nat → Option M3) (l : List Nat) (st : WS) : WS := l.foldl (fun st i => takeS (h i) i st) st
theorem leafS_snoc (h : Nat → Option M3) (l : List Nat) (i : Nat) (st : WS) : leafS h (l ++ [i]) st = takeS (h i) i (leafS h l st) := by simp [leafS]
structure WalkH (order : List Nat) (tris : List TL) (OD TD : List D) : Prop where
 o : ∀ (j i : Nat), order[j]? = some i → Ω .sget OD j = some (.i .i64 (Ω .ci i))
 ol : Ω .slen OD = order.length
 ov : ∀ i, i ∈ order → i < tris.length
 t : ∀ (i : Nat) t, tris[i]? = some t → Ω .sget TD i = some (.agg (dT Ψ t))
 tl : Ω .slen TD = tris.length
 os : order.length < 1099511627776
 ts : tris.length < 1099511627776
def hitAt (o d : VL) (tris : List TL) (i : Nat) : Option M3 := match tris[i]? with
 | some t => hitS (vv o) (vv d) (tv t)
 | none => none
structure WOk (k : Nat) (st : WS) : Prop where
 s : Qn k st.m.s
 b1 : -1 ≤ st.best
 b2 : st.best < 1099511627776
end Go.K
namespace Go.K.S
open Go Go.K
theorem leaf_good {order : List Nat} {tris : List TL} {ND OD TD S : List D} (W : WalkH order tris OD TD) (o d : VL) (n : NodeL) (st : WS) (f c : Nat) {k : Nat} (hf : n.from' = Ω .ci f) (hc : n.count = Ω .ci c) (hfc : f + c ≤ order.length)
  (ho : Vn k o) (hd : Vn k d) (ht : ∀ t, t ∈ tris → Tn k t) (hk : 0 < k) (hk2 : k < 134217728) (hst : WOk (60 * k + 60) st) :
  Good P F.P_trace_walker_leaf [.ptr 0 0, .agg ((dNode Ψ n).map V.d)] [.var (wc Ψ ND OD TD o d st.best (Ψ .cM st.m)), .row true T.bool 1 S] (.tup [])
   [.var (wc Ψ ND OD TD o d (leafS (hitAt o d tris) ((order.drop f).take c) st).best (Ψ .cM (leafS (hitAt o d tris) ((order.drop f).take c) st).m)), .row true T.bool 1 S] := by
 refine G.P_trace_walker_leaf (hb := of_decide_eq_true rfl) fun C C2 hC hC2 => ?_
 obtain ⟨A, hA⟩ : ∃ A : Nat → WS, A = fun i => leafS (hitAt o d tris) ((order.drop f).take i) st := ⟨_, rfl⟩
 have hA0 : A 0 = st := by rw [hA]; rfl
 have hAs : ∀ j i, j < c → order[f + j]? = some i → A (j + 1) = takeS (hitAt o d tris i) i (A j) := fun j i hj hi => by
  rw [hA]; simp only
  rw [take_succ_of (l := order.drop f) (i := j) (x := i) (by rw [List.getElem?_drop]; exact hi), leafS_snoc]
 have hAl : leafS (hitAt o d tris) ((order.drop f).take c) st = A c := by rw [hA]
 have hAq : ∀ j, j ≤ c → WOk (60 * k + 60) (A j) := fun j => by
  induction j with
  | zero => intro _; rw [hA0]; exact hst
  | succ j ih =>
   intro hj
   obtain ⟨i, hi⟩ : ∃ i, order[f + j]? = some i := ⟨_, List.getElem?_eq_getElem (by omega)⟩
   rw [hAs j i (by omega) hi]
   have ihj := ih (by omega)
   unfold takeS
   cases hh : hitAt o d tris i with
   | none => exact ihj
   | some m =>
    simp only
    split
    ·exact ihj
    ·unfold hitAt at hh
     cases htr : tris[i]? with
     | none => rw [htr] at hh; cases hh
     | some t =>
      rw [htr] at hh
      have hlt := (List.getElem?_eq_some_iff.1 htr).1
      have := W.ts
      exact ⟨(Qn_hit ho hd (ht t (List.mem_of_getElem? htr)) hk hh).1, by simp only; omega, by simp only; omega⟩
 rw [hAl]
 have hos := W.os
 have hts := W.ts
 obtain ⟨bx, nl, nr, nf, nc⟩ := n
 simp only at hf hc
 subst hf hc
 clear hAl hA
 refine rk ?_
 refine LoopG.intro (σ := Nat) [0, 3, 10, 11] [0, 1, 1050]
  (fun j => [.ptr 0 0, .ptr 1050 0, .d (.i .i64 (Ω .ci c)), .d (.i .i64 (Ω .ci j))])
  (fun j => [.var (wc Ψ ND OD TD o d (A j).best (Ψ .cM (A j).m)), .row true T.bool 1 S, .var ((dNode Ψ ⟨bx, nl, nr, Ω .ci f, Ω .ci c⟩).map V.d)])
  (fun j => j ≤ c)
  (fun j => c - j) 0 [0, 1, 1000] (Nat.zero_le _) ⟨rfl, rfl, by rw [hA0]; rfl⟩ ?_
 intro j hj
 rcases Nat.lt_or_ge j c with hlt | hge
 ·obtain ⟨i, hi⟩ : ∃ i, order[f + j]? = some i := ⟨_, List.getElem?_eq_getElem (by omega)⟩
  have hil := W.ov i (List.mem_of_getElem? hi)
  obtain ⟨t, htr⟩ : ∃ t, tris[i]? = some t := ⟨_, List.getElem?_eq_getElem hil⟩
  have hq : Ω .lt (Ω .ci j) (Ω .ci c) = true := by simp only [wz]; omega
  have hst' := hAs j i hlt hi
  have ok := hAq j hj
  have hw : Ω .wrap .i64 (Ω .ci f + Ω .ci j) = Ω .ci (f + j) := by rw [wrap_add (by omega)]
  have e1 := W.o _ _ hi
  have e2 := W.t _ _ htr
  have q1 : Ω .lt (Ω .ci (f + j)) 0 = false := by simp only [wz]; omega
  have q2 : Ω .le (Ω .ci (Ω .slen OD)) (Ω .ci (f + j)) = false := by rw [W.ol]; simp only [wz]; omega
  have q3 : Ω .lt (Ω .ci i) 0 = false := by simp only [wz]; omega
  have q4 : Ω .le (Ω .ci (Ω .slen TD)) (Ω .ci i) = false := by rw [W.tl]; simp only [wz]; omega
  have gh := hit_good o d t ho hd (ht t (List.mem_of_getElem? htr)) hk hk2
  have hh : hitAt o d tris i = hitS (vv o) (vv d) (tv t) := by unfold hitAt; rw [htr]
  rw [hh] at hst'
  generalize A j = a at *
  cases hS : hitS (vv o) (vv d) (tv t) with
  | none =>
   rw [hS] at hst'
   have h1 : hitOk (vv o) (vv d) (tv t) = false := by unfold hitOk; rw [hS]; rfl
   rw [h1] at gh
   generalize hitM (vv o) (vv d) (tv t) = m at *
   refine rk ?_
   rw [hw]
   refine rk ?_
   refine ⟨j + 1, [0, 1, 1050], hlt, by omega, rfl, ?_, ?_⟩
   ·refine Eq.trans (b := [.ptr 0 0, .ptr 1050 0, .d (.i .i64 (Ω .ci c)), .d (.i .i64 _)]) rfl ?_
    rw [wrap_succ (by omega)]
   ·rw [hst']; rfl
  | some m =>
   rw [hS] at hst'
   have h1 : hitOk (vv o) (vv d) (tv t) = true := by unfold hitOk; rw [hS]; rfl
   have h2 : hitM (vv o) (vv d) (tv t) = m := by unfold hitM; rw [hS]; rfl
   rw [h1, h2] at gh
   have qm := (Qn_hit ho hd (ht t (List.mem_of_getElem? htr)) hk hS).1
   have gp := past_good (ND := ND) (OD := OD) (TD := TD) (S := S) o d a.best (Ψ .cM a.m) (Ψ .cr m.s) (Rn_cr.2 ok.s) (Rn_cr.2 qm) (by omega)
   have gsm := rsame_good (Ψ .cr m.s) (Ψ .cr a.m.s) (Rn_cr.2 qm) (Rn_cr.2 ok.s) (by omega) (by omega)
   rw [rv_cr] at gp
   rw [rv_cr, rv_cr] at gsm
   have e3 : rv (Ψ .cM a.m).s = a.m.s := rv_cr _
   rw [e3] at gp
   unfold takeS at hst'
   simp only at hst'
   obtain ⟨bst, mm⟩ := a
   simp only at *
   by_cases hb : 0 ≤ bst
   ·have hb' := le_true.2 hb
    by_cases hc1 : mm.s < m.s
    ·rw [if_pos ⟨hb, .inl hc1⟩] at hst'
     rw [decide_eq_true hb, decide_eq_true hc1] at gp
     refine rk ?_
     rw [hw]
     refine rk ?_
     refine ⟨j + 1, [0, 1, 1050], hlt, by omega, rfl, ?_, ?_⟩
     ·refine Eq.trans (b := [.ptr 0 0, .ptr 1050 0, .d (.i .i64 (Ω .ci c)), .d (.i .i64 _)]) rfl ?_
      rw [wrap_succ (by omega)]
     ·rw [hst']; rfl
    ·rw [decide_eq_true hb, decide_eq_false hc1] at gp
     by_cases hc2 : m.s = mm.s
     ·rw [decide_eq_true hc2] at gsm
      by_cases hc3 : bst < (i : Int)
      ·rw [if_pos ⟨hb, .inr ⟨hc2, hc3⟩⟩] at hst'
       have hc3' : Ω .lt bst (Ω .ci i) = true := lt_true.2 hc3
       refine rk ?_
       rw [hw]
       refine rk ?_
       refine ⟨j + 1, [0, 1, 1050], hlt, by omega, rfl, ?_, ?_⟩
       ·refine Eq.trans (b := [.ptr 0 0, .ptr 1050 0, .d (.i .i64 (Ω .ci c)), .d (.i .i64 _)]) rfl ?_
        rw [wrap_succ (by omega)]
       ·rw [hst']; rfl
      ·rw [if_neg (fun q => q.2.elim hc1 fun q => hc3 q.2)] at hst'
       have hc3' : Ω .lt bst (Ω .ci i) = false := lt_false.2 (Int.not_lt.1 hc3)
       refine rk ?_
       rw [hw]
       refine rk ?_
       refine ⟨j + 1, [0, 1, 1050], hlt, by omega, rfl, ?_, ?_⟩
       ·refine Eq.trans (b := [.ptr 0 0, .ptr 1050 0, .d (.i .i64 (Ω .ci c)), .d (.i .i64 _)]) rfl ?_
        rw [wrap_succ (by omega)]
       ·rw [hst']; rfl
     ·rw [decide_eq_false hc2] at gsm
      rw [if_neg (fun q => q.2.elim hc1 fun q => hc2 q.1)] at hst'
      refine rk ?_
      rw [hw]
      refine rk ?_
      refine ⟨j + 1, [0, 1, 1050], hlt, by omega, rfl, ?_, ?_⟩
      ·refine Eq.trans (b := [.ptr 0 0, .ptr 1050 0, .d (.i .i64 (Ω .ci c)), .d (.i .i64 _)]) rfl ?_
       rw [wrap_succ (by omega)]
      ·rw [hst']; rfl
   ·have hb' := le_false.2 (Int.not_le.1 hb)
    rw [decide_eq_false hb, Bool.false_and] at gp
    rw [if_neg (fun q => hb q.1)] at hst'
    refine rk ?_
    rw [hw]
    refine rk ?_
    refine ⟨j + 1, [0, 1, 1050], hlt, by omega, rfl, ?_, ?_⟩
    ·refine Eq.trans (b := [.ptr 0 0, .ptr 1050 0, .d (.i .i64 (Ω .ci c)), .d (.i .i64 _)]) rfl ?_
     rw [wrap_succ (by omega)]
    ·rw [hst']; rfl
 ·have hq : Ω .lt (Ω .ci j) (Ω .ci c) = false := by simp only [wz]; omega
  obtain rfl : j = c := by omega
  generalize A j = a at *
  refine rk ?_
  exact ⟨[], rfl, rfl, rfl⟩
end Go.K.S
end
section
namespace Go.K
open Go Go.K.S
inductive TR where
 | leaf (i : Nat) (n : NodeL) (f c : Nat)
 | inner (i : Nat) (n : NodeL) (l r : TR)
def TR.ix : TR → Nat
 | .leaf i _ _ _ => i
 | .inner i _ _ _ => i
def TR.fit (nodes : List NodeL) (order : List Nat) : TR → Nat → Prop
 | .leaf i n f c, e => nodes[i]? = some n ∧ n.from' = Ω .ci f ∧ n.count = Ω .ci c ∧ 0 < c ∧ f + c ≤ order.length ∧ e = i + 1
 | .inner i n l r, e => nodes[i]? = some n ∧ n.count = 0 ∧ n.left = Ω .ci l.ix ∧ n.right = Ω .ci r.ix ∧ l.ix = i + 1 ∧ l.fit nodes order r.ix ∧ r.fit nodes order e
theorem TR.fit_lt {nodes : List NodeL} {order : List Nat} : ∀ {t : TR} {e : Nat}, t.fit nodes order e → t.ix < e ∧ t.ix < nodes.length
 | .leaf i n f c, e, h => ⟨by rw [h.2.2.2.2.2]; exact Nat.lt_succ_self _, (List.getElem?_eq_some_iff.1 h.1).1⟩
 | .inner i n l r, e, h => by
  have h1 := TR.fit_lt h.2.2.2.2.2.1
  have h2 := TR.fit_lt h.2.2.2.2.2.2
  have h3 := h.2.2.2.2.1
  exact ⟨by simp only [TR.ix]; omega, (List.getElem?_eq_some_iff.1 h.1).1⟩
def missS (o d : VL) (n : NodeL) (st : WS) : Bool := !clipOk (vv o) (vv d) (bv n.box) || (decide (0 ≤ st.best) && decide (st.m.s < (clipS (vv o) (vv d) (bv n.box)).from'))
def walk (o d : VL) (order : List Nat) (tris : List TL) : TR → WS × List Bool → WS × List Bool
 | .leaf i n f c, x => if missS o d n x.1 then (x.1, x.2.set i true) else (leafS (hitAt o d tris) ((order.drop f).take c) x.1, x.2.set i true)
 | .inner i n l r, x => if missS o d n x.1 then (x.1, x.2.set i true) else walk o d order tris r (walk o d order tris l (x.1, x.2.set i true))
theorem walk_len {o d : VL} {order : List Nat} {tris : List TL} : ∀ (t : TR) (x : WS × List Bool), (walk o d order tris t x).2.length = x.2.length
 | .leaf i n f c, x => by unfold walk; split <;> simp
 | .inner i n l r, x => by
  unfold walk; split
  ·simp
  ·rw [walk_len r, walk_len l]; simp
theorem walk_seen {o d : VL} {nodes : List NodeL} {order : List Nat} {tris : List TL} : ∀ (t : TR) {e : Nat} (x : WS × List Bool), t.fit nodes order e → ∀ j, j < t.ix ∨ e ≤ j → (walk o d order tris t x).2[j]? = x.2[j]?
 | .leaf i n f c, e, x, h, j, hj => by
  have := h.2.2.2.2.2
  simp only [TR.ix] at hj
  unfold walk; split <;> simp only <;> rw [List.getElem?_set_ne (by omega)]
 | .inner i n l r, e, x, h, j, hj => by
  have h1 := TR.fit_lt h.2.2.2.2.2.1
  have h2 := TR.fit_lt h.2.2.2.2.2.2
  have h3 := h.2.2.2.2.1
  simp only [TR.ix] at hj
  unfold walk; split
  ·simp only; rw [List.getElem?_set_ne (by omega)]
  ·rw [walk_seen r _ h.2.2.2.2.2.2 j (by omega), walk_seen l _ h.2.2.2.2.2.1 j (by omega)]
   simp only; rw [List.getElem?_set_ne (by omega)]
theorem leafS_ok {o d : VL} {tris : List TL} {k : Nat} (ho : Vn k o) (hd : Vn k d) (ht : ∀ t, t ∈ tris → Tn k t) (hk : 0 < k) (hts : tris.length < 1099511627776) : ∀ (l : List Nat) (st : WS), WOk (60 * k + 60) st → WOk (60 * k + 60) (leafS (hitAt o d tris) l st) := fun l => by
 induction l with
 | nil => intro st h; exact h
 | cons i l ih =>
  intro st h
  refine ih _ ?_
  show WOk _ (takeS (hitAt o d tris i) i st)
  unfold takeS
  cases hh : hitAt o d tris i with
  | none => exact h
  | some m =>
   simp only
   split
   ·exact h
   ·unfold hitAt at hh
    cases htr : tris[i]? with
    | none => rw [htr] at hh; cases hh
    | some t =>
     rw [htr] at hh
     have hlt := (List.getElem?_eq_some_iff.1 htr).1
     exact ⟨(Qn_hit ho hd (ht t (List.mem_of_getElem? htr)) hk hh).1, by simp only; omega, by simp only; omega⟩
theorem walk_ok {o d : VL} {order : List Nat} {tris : List TL} {k : Nat} (ho : Vn k o) (hd : Vn k d) (ht : ∀ t, t ∈ tris → Tn k t) (hk : 0 < k) (hts : tris.length < 1099511627776) : ∀ (t : TR) (x : WS × List Bool), WOk (60 * k + 60) x.1 → WOk (60 * k + 60) (walk o d order tris t x).1
 | .leaf i n f c, x, h => by
  unfold walk; split
  ·exact h
  ·exact leafS_ok ho hd ht hk hts _ _ h
 | .inner i n l r, x, h => by
  unfold walk; split
  ·exact h
  ·exact walk_ok ho hd ht hk hts r _ (walk_ok ho hd ht hk hts l _ h)
structure NodeH (nodes : List NodeL) (ND : List D) : Prop where
 n : ∀ (i : Nat) n, nodes[i]? = some n → Ω .sget ND i = some (.agg (dNode Ψ n))
 nl : Ω .slen ND = nodes.length
 ns : nodes.length < 1099511627776
theorem sset_b (s : List Bool) (i : Nat) : Ω .sset (s.map D.b) i (.b true) = (s.set i true).map D.b := by simp [w_sset, List.map_set]
end Go.K
namespace Go.K.S
open Go Go.K
theorem node_good {nodes : List NodeL} {order : List Nat} {tris : List TL} {ND OD TD : List D} (W : WalkH order tris OD TD) (N : NodeH nodes ND) (o d : VL) {k : Nat}
  (ho : Vn k o) (hd : Vn k d) (ht : ∀ t, t ∈ tris → Tn k t) (hb : ∀ n, n ∈ nodes → Bn k n.box) (hk : 0 < k) (hk2 : k < 134217728) :
  ∀ (t : TR) (e : Nat), t.fit nodes order e → ∀ (st : WS) (s : List Bool), s.length = nodes.length → (∀ j, t.ix ≤ j → j < e → s[j]? = some false) → WOk (60 * k + 60) st →
   Good P F.P_trace_walker_node [.ptr 0 0, .d (.i .i64 (Ω .ci t.ix))] [.var (wc Ψ ND OD TD o d st.best (Ψ .cM st.m)), .row true T.bool 1 (s.map D.b)] (.tup [])
    [.var (wc Ψ ND OD TD o d (walk o d order tris t (st, s)).1.best (Ψ .cM (walk o d order tris t (st, s)).1.m)), .row true T.bool 1 ((walk o d order tris t (st, s)).2.map D.b)] := by
 intro t
 induction t with
 | leaf i n f c =>
  intro e hf st s hsl hun hok
  obtain ⟨h1, h2, h3, h4, h5, h6⟩ := hf
  refine G.P_trace_walker_node (hb := of_decide_eq_true rfl) fun C C2 hC hC2 => ?_
  have hbn := hb n (List.mem_of_getElem? h1)
  have hil := (List.getElem?_eq_some_iff.1 h1).1
  have nl := N.nl
  have ns := N.ns
  have e1 := N.n i n h1
  have hsi : s[i]? = some false := hun i (Nat.le_refl _) (by omega)
  have e2 : Ω .sget (s.map D.b) i = some (.b false) := by rw [w_sget, List.getElem?_map, hsi]; rfl
  have eset := sset_b s i
  have hSl : Ω .slen (s.map D.b) = nodes.length := by rw [w_slen, List.length_map, hsl]
  have q1 : Ω .lt (Ω .ci i) 0 = false := by simp only [wz]; omega
  have q2 : Ω .le (Ω .ci (Ω .slen ND)) (Ω .ci i) = false := by rw [nl]; simp only [wz]; omega
  have q3 : Ω .lt 0 (Ω .ci c) = true := by simp only [wz]; omega
  have gc := clip_good o d n.box ho hd hbn hk (by omega)
  have sn := Sn_clipS ho hd hbn hk
  have gp := fun S => past_good (ND := ND) (OD := OD) (TD := TD) (S := S) o d st.best (Ψ .cM st.m) (Ψ .cr (clipS (vv o) (vv d) (bv n.box)).from') (Rn_cr.2 hok.s) ((Rn_cr.2 sn.f).mono (show _ ≤ 60 * k + 60 by omega)) (by omega)
  have gl := fun S => leaf_good (ND := ND) (S := S) W o d n st f c h2 h3 h5 ho hd ht hk hk2 hok
  have e3 : rv (Ψ .cM st.m).s = st.m.s := rv_cr _
  simp only [rv_cr, e3] at gp
  simp only [TR.ix]
  unfold walk
  unfold missS
  simp only
  generalize leafS (hitAt o d tris) ((order.drop f).take c) st = st' at *
  generalize clipOk (vv o) (vv d) (bv n.box) = ok at *
  generalize clipS (vv o) (vv d) (bv n.box) = sp at *
  obtain ⟨S1, hS1⟩ : ∃ x, x = (s.set i true).map D.b := ⟨_, rfl⟩
  obtain ⟨S, hS⟩ : ∃ x, x = s.map D.b := ⟨_, rfl⟩
  rw [← hS, ← hS1] at eset
  rw [← hS] at e2 hSl ⊢
  obtain ⟨bx, nl', nr, nf, nc⟩ := n
  simp only at h2 h3 gl
  subst h3
  have gp1 := gp S1
  have gl1 := gl S1
  clear gp gl
  cases ok
  ·simp only [Bool.not_false, Bool.true_or, if_true]
   rw [← hS1]
   refine rk ?_
   refine ⟨ci_nonneg _, (by simp only [wz]; omega), (by simp only [wz]; omega), ci_nonneg _, _, e1, rfl, ?_⟩
   rw [eset]
   refine rk ?_
   exact ⟨[], rfl, rfl, rfl⟩
  ·simp only [Bool.not_true, Bool.false_or]
   generalize (decide (0 ≤ st.best) && decide (st.m.s < sp.from')) = pb at *
   cases pb
   ·simp only [Bool.false_eq_true, if_false]
    rw [← hS1]
    refine rk ?_
    refine ⟨ci_nonneg _, (by simp only [wz]; omega), (by simp only [wz]; omega), ci_nonneg _, _, e1, rfl, ?_⟩
    rw [eset]
    refine rk ?_
    exact ⟨[], rfl, rfl, rfl⟩
   ·simp only [if_true]
    rw [← hS1]
    refine rk ?_
    refine ⟨ci_nonneg _, (by simp only [wz]; omega), (by simp only [wz]; omega), ci_nonneg _, _, e1, rfl, ?_⟩
    rw [eset]
    refine rk ?_
    exact ⟨[], rfl, rfl, rfl⟩
 | inner i n l r ihl ihr =>
  intro e hf st s hsl hun hok
  obtain ⟨h1, h2, h3, h4, h5, h6, h7⟩ := hf
  have fl := TR.fit_lt h6
  have fr := TR.fit_lt h7
  refine G.P_trace_walker_node (hb := of_decide_eq_true rfl) fun C C2 hC hC2 => ?_
  have hbn := hb n (List.mem_of_getElem? h1)
  have hil := (List.getElem?_eq_some_iff.1 h1).1
  have nl := N.nl
  have ns := N.ns
  have e1 := N.n i n h1
  have hsi : s[i]? = some false := hun i (Nat.le_refl _) (by omega)
  have e2 : Ω .sget (s.map D.b) i = some (.b false) := by rw [w_sget, List.getElem?_map, hsi]; rfl
  have eset := sset_b s i
  have hSl : Ω .slen (s.map D.b) = nodes.length := by rw [w_slen, List.length_map, hsl]
  have q1 : Ω .lt (Ω .ci i) 0 = false := by simp only [wz]; omega
  have q2 : Ω .le (Ω .ci (Ω .slen ND)) (Ω .ci i) = false := by rw [nl]; simp only [wz]; omega
  have q3 : Ω .lt (Ω .ci i) (Ω .ci l.ix) = true := by simp only [wz]; omega
  have q4 : Ω .lt (Ω .ci i) (Ω .ci r.ix) = true := by simp only [wz]; omega
  have gc := clip_good o d n.box ho hd hbn hk (by omega)
  have sn := Sn_clipS ho hd hbn hk
  have gp := fun S => past_good (ND := ND) (OD := OD) (TD := TD) (S := S) o d st.best (Ψ .cM st.m) (Ψ .cr (clipS (vv o) (vv d) (bv n.box)).from') (Rn_cr.2 hok.s) ((Rn_cr.2 sn.f).mono (show _ ≤ 60 * k + 60 by omega)) (by omega)
  have e3 : rv (Ψ .cM st.m).s = st.m.s := rv_cr _
  simp only [rv_cr, e3] at gp
  have hun' : ∀ j, i < j → j < e → s[j]? = some false := fun j a b => hun j (by simp only [TR.ix]; omega) b
  have ga := ihl r.ix h6 st (s.set i true) (by simp [hsl]) (fun j a b => by rw [List.getElem?_set_ne (by omega)]; exact hun' j (by omega) (by omega)) hok
  have hok1 := walk_ok (order := order) ho hd ht hk W.ts l (st, s.set i true) hok
  have gb := ihr e h7 (walk o d order tris l (st, s.set i true)).1 (walk o d order tris l (st, s.set i true)).2 (by rw [walk_len]; simp [hsl])
   (fun j a b => by rw [walk_seen l _ h6 j (by omega)]; simp only; rw [List.getElem?_set_ne (by omega)]; exact hun' j (by omega) b) hok1
  simp only [TR.ix]
  unfold walk
  unfold missS
  simp only
  obtain ⟨Z, hZ⟩ : ∃ Z : Nat → WS × List Bool, Z = fun j => match j with
   | 0 => (st, s.set i true)
   | 1 => walk o d order tris l (st, s.set i true)
   | _ => walk o d order tris r (walk o d order tris l (st, s.set i true)) := ⟨_, rfl⟩
  have z0 : Z 0 = (st, s.set i true) := by subst hZ; rfl
  have z1 : Z 1 = walk o d order tris l (st, s.set i true) := by subst hZ; rfl
  have z2 : Z 2 = walk o d order tris r (walk o d order tris l (st, s.set i true)) := by subst hZ; rfl
  rw [← z2]
  change Good P F.P_trace_walker_node _ _ _ [.var (wc Ψ ND OD TD o d (walk o d order tris r (walk o d order tris l (st, s.set i true))).1.best (Ψ .cM (walk o d order tris r (walk o d order tris l (st, s.set i true))).1.m)), .row true T.bool 1 ((walk o d order tris r (walk o d order tris l (st, s.set i true))).2.map D.b)] at gb
  rw [← z2, ← z1] at gb
  rw [← z1] at ga
  clear hok1 hun hun' ihl ihr hZ z2 z1 sn
  generalize clipOk (vv o) (vv d) (bv n.box) = ok at *
  generalize clipS (vv o) (vv d) (bv n.box) = sp at *
  obtain ⟨SR, hSR⟩ : ∃ f : Nat → List D, f = fun j => (Z j).2.map D.b := ⟨_, rfl⟩
  have r0 : (s.set i true).map D.b = SR 0 := by subst hSR; simp only [z0]
  have r1 : (Z 1).2.map D.b = SR 1 := by subst hSR; rfl
  have r2 : (Z 2).2.map D.b = SR 2 := by subst hSR; rfl
  have b0 : st = (Z 0).1 := by rw [z0]
  rw [r0] at eset ga
  rw [r1] at ga gb
  rw [r2] at gb
  obtain ⟨S, hS⟩ : ∃ x, x = s.map D.b := ⟨_, rfl⟩
  rw [← hS] at e2 hSl eset ⊢
  have gp1 := gp (SR 0)
  clear gp hSR z0
  obtain ⟨bx, nl', nr, nf, nc⟩ := n
  simp only at h2 h3 h4
  subst h2 h3 h4
  cases ok
  ·simp only [Bool.not_false, Bool.true_or, if_true]
   rw [r0]
   refine rk ?_
   refine ⟨ci_nonneg _, (by simp only [wz]; omega), (by simp only [wz]; omega), ci_nonneg _, _, e1, rfl, ?_⟩
   rw [eset]
   refine rk ?_
   exact ⟨[], rfl, rfl, rfl⟩
  ·simp only [Bool.not_true, Bool.false_or]
   generalize (decide (0 ≤ st.best) && decide (st.m.s < sp.from')) = pb at *
   cases pb
   ·simp only [Bool.false_eq_true, if_false]
    rw [r2]
    refine rk ?_
    refine ⟨ci_nonneg _, (by simp only [wz]; omega), (by simp only [wz]; omega), ci_nonneg _, _, e1, rfl, ?_⟩
    rw [eset]
    refine rk ?_
    refine LoopG.intro (σ := Nat) [0, 1, 76, 77] [0, 1]
     (fun j => [.ptr 0 0, .d (.i .i64 (Ω .ci i)), .agg [.d (.i .i64 (Ω .ci l.ix)), .d (.i .i64 (Ω .ci r.ix))], .d (.i .i64 (il j))])
     (fun j => [.var (wc Ψ ND OD TD o d (Z j).1.best (Ψ .cM (Z j).1.m)), .row true T.bool 1 (SR j)])
     (fun j => j ≤ 2)
     (fun j => 2 - j) 0 [0, 1] (Nat.zero_le _) ⟨rfl, rfl, by rw [← b0]; rfl⟩ ?_
    rw [b0] at ga
    rintro (_ | _ | _ | j) hj
    ·refine rk ?_
     exact ⟨1, [0, 1], by omega, by omega, rfl, rfl, rfl⟩
    ·refine rk ?_
     exact ⟨2, [0, 1], by omega, by omega, rfl, rfl, rfl⟩
    ·refine rk ?_
     exact ⟨[], rfl, rfl, rfl⟩
    ·omega
   ·simp only [if_true]
    rw [r0]
    refine rk ?_
    refine ⟨ci_nonneg _, (by simp only [wz]; omega), (by simp only [wz]; omega), ci_nonneg _, _, e1, rfl, ?_⟩
    rw [eset]
    refine rk ?_
    exact ⟨[], rfl, rfl, rfl⟩
end Go.K.S
end
section
namespace Go.K
open Go Go.K.S
def st0 : WS := ⟨-1, m0⟩
def nearS (o d : VL) (order : List Nat) (tris : List TL) (n : Nat) (t : TR) : WS := (walk o d order tris t (st0, List.replicate n false)).1
end Go.K
namespace Go.K.S
open Go Go.K
theorem st0_ok {k : Nat} (hk : 0 < k) : WOk (60 * k + 60) st0 := ⟨Qn_zero (by omega), by show (-1 : Int) ≤ -1; omega, by show (-1 : Int) < _; omega⟩
theorem nearest_good {nodes : List NodeL} {order : List Nat} {tris : List TL} {ND OD TD : List D} (W : WalkH order tris OD TD) (N : NodeH nodes ND) (o d : VL) {k : Nat}
  (ho : Vn k o) (hd : Vn k d) (ht : ∀ t, t ∈ tris → Tn k t) (hb : ∀ n, n ∈ nodes → Bn k n.box) (hk : 0 < k) (hk2 : k < 134217728) (t : TR) (hf : t.fit nodes order nodes.length) (hix : t.ix = 0) :
   Good P F.trace_Nearest [.d (.agg [.sl ND, .sl OD]), .d (.sl TD), .d (.agg (dV Ψ o)), .d (.agg (dV Ψ d))] []
    (.tup [.d (.i .i64 (nearS o d order tris nodes.length t).best), .d (.agg (dM Ψ (Ψ .cM (nearS o d order tris nodes.length t).m))), .d (.b (decide (0 ≤ (nearS o d order tris nodes.length t).best)))]) [] := by
 refine G.trace_Nearest fun C C2 hC hC2 => ?_
 have g1 := of01_good
 have g2 := node_good W N o d ho hd ht hb hk hk2 t nodes.length hf st0 (List.replicate nodes.length false) (by simp) (fun j _ hj => by simp [hj]) (st0_ok hk)
 rw [hix] at g2
 have nl := N.nl
 have ns := N.ns
 change Good P F.P_trace_walker_node _ _ _ [.var (wc Ψ ND OD TD o d (nearS o d order tris nodes.length t).best (Ψ .cM (nearS o d order tris nodes.length t).m)), _] at g2
 generalize nearS o d order tris nodes.length t = r at *
 generalize (walk o d order tris t (st0, List.replicate nodes.length false)).2.map D.b = S' at *
 have hS : Ω .srep (Ω .slen ND) (.b false) = (List.replicate nodes.length false).map D.b := by rw [w_srep, nl, List.map_replicate]
 generalize (List.replicate nodes.length false).map D.b = S at *
 by_cases hr : 0 ≤ r.best
 ·rw [decide_eq_true hr]
  have hr' := le_true.2 hr
  refine rk ?_
  refine ⟨ci_nonneg _, Int.le_refl _, (by simp only [wz]; omega), (by simp only [wz]; omega), ?_⟩
  rw [hS]
  exact rk trivial
 ·rw [decide_eq_false hr]
  have hr' := le_false.2 (Int.not_le.1 hr)
  refine rk ?_
  refine ⟨ci_nonneg _, Int.le_refl _, (by simp only [wz]; omega), (by simp only [wz]; omega), ?_⟩
  rw [hS]
  exact rk trivial
theorem node_none {OD TD S : List D} (o d : VL) (st : WS) :
  Good P F.P_trace_walker_node [.ptr 0 0, .d (.i .i64 (Ω .ci 0))] [.var (wc Ψ [] OD TD o d st.best (Ψ .cM st.m)), .row true T.bool 1 S] (.tup [])
   [.var (wc Ψ [] OD TD o d st.best (Ψ .cM st.m)), .row true T.bool 1 S] := by
 refine G.P_trace_walker_node (hb := of_decide_eq_true rfl) fun C C2 hC hC2 => ?_
 have q1 : Ω .lt (Ω .ci 0) 0 = false := rfl
 have q2 : Ω .le (Ω .ci 0) (Ω .ci 0) = true := rfl
 refine rk ?_
 exact ⟨[], rfl, rfl, rfl⟩
theorem nearest_none {OD TD : List D} (o d : VL) :
   Good P F.trace_Nearest [.d (.agg [.sl [], .sl OD]), .d (.sl TD), .d (.agg (dV Ψ o)), .d (.agg (dV Ψ d))] []
    (.tup [.d (.i .i64 (-1)), .d (.agg (dM Ψ (Ψ .cM m0))), .d (.b false)]) [] := by
 refine G.trace_Nearest fun C C2 hC hC2 => ?_
 have g1 := of01_good
 have g2 := node_none (OD := OD) (TD := TD) (S := []) o d st0
 have hS : Ω .srep 0 (.b false) = [] := rfl
 refine rk ?_
 refine ⟨ci_nonneg _, Int.le_refl _, (by simp only [wz]; omega), (by simp only [wz]; omega), ?_⟩
 rw [hS]
 exact rk trivial
end Go.K.S
end
section
namespace Go.K
open Go Go.K.S
structure TriH (tris : List TL) (TD : List D) : Prop where
 t : ∀ (i : Nat) t, tris[i]? = some t → Ω .sget TD i = some (.agg (dT Ψ t))
 tl : Ω .slen TD = tris.length
 ts : tris.length < 268435456
end Go.K
namespace Go.K.S
open Go Go.K
end Go.K.S
namespace Go.K
def nodesD (l : List NodeL) : List D := l.map fun n => .agg (dNode Ψ n)
theorem nodesD_snoc (l : List NodeL) (n : NodeL) : nodesD (l ++ [n]) = Ω .scat (nodesD l) [.agg (dNode Ψ n)] := by simp [nodesD, w_scat]
theorem nodesD_len (l : List NodeL) : Ω .slen (nodesD l) = l.length := by simp [nodesD, w_slen]
end Go.K
namespace Go.K.S
open Go Go.K
end Go.K.S
end
section
namespace Go.K
open Go Go.K.S
def Bst (h : Nat → Option M3) (A : Nat → Prop) (st : WS) : Prop :=
 (st = st0 ∧ ∀ j, A j → h j = none) ∨ ∃ i : Nat, st.best = (i : Int) ∧ A i ∧ h i = some st.m ∧ ∀ j m, A j → h j = some m → st.m.s < m.s ∨ (st.m.s = m.s ∧ i ≤ j)
theorem Bst.congr {h : Nat → Option M3} {A B : Nat → Prop} {st : WS} (hb : Bst h A st) (e : ∀ j, A j ↔ B j) : Bst h B st := by
 have : A = B := funext fun j => propext (e j)
 rwa [← this]
theorem Bst.take {h : Nat → Option M3} {A : Nat → Prop} {st : WS} (hb : Bst h A st) (i : Nat) : Bst h (fun j => A j ∨ j = i) (takeS (h i) i st) := by
 unfold takeS
 cases hi : h i with
 | none =>
  simp only
  rcases hb with ⟨e, hn⟩ | ⟨k, e, ha, hk, hm⟩
  ·exact .inl ⟨e, fun j hj => hj.elim (hn j) fun q => q ▸ hi⟩
  ·exact .inr ⟨k, e, .inl ha, hk, fun j m hj hm' => hj.elim (fun q => hm j m q hm') fun q => by rw [q, hi] at hm'; cases hm'⟩
 | some m =>
  simp only
  by_cases c : 0 ≤ st.best ∧ (st.m.s < m.s ∨ m.s = st.m.s ∧ st.best < (i : Int))
  ·rw [if_pos c]
   rcases hb with ⟨e, hn⟩ | ⟨k, e, ha, hk, hm⟩
   ·exfalso
    have := c.1
    rw [e] at this
    exact absurd this (by show ¬ (0 : Int) ≤ -1; omega)
   ·refine .inr ⟨k, e, .inl ha, hk, fun j m' hj hm' => hj.elim (fun q => hm j m' q hm') fun q => ?_⟩
    subst q
    rw [hi] at hm'
    cases hm'
    rcases c.2 with c | c
    ·exact .inl c
    ·exact .inr ⟨c.1.symm, by have := c.2; omega⟩
  ·rw [if_neg c]
   refine .inr ⟨i, rfl, .inr rfl, hi, fun j m' hj hm' => ?_⟩
   simp only
   rcases hj with hj | hj
   ·rcases hb with ⟨e, hn⟩ | ⟨k, e, ha, hk, hm⟩
    ·rw [hn j hj] at hm'; cases hm'
    ·have h1 := hm j m' hj hm'
     have h2 : ¬ (st.m.s < m.s ∨ m.s = st.m.s ∧ st.best < (i : Int)) := fun q => c ⟨by omega, q⟩
     have h3 : m.s ≤ st.m.s := by grind
     rcases h1 with h1 | ⟨h1, h4⟩
     ·exact .inl (by grind)
     ·by_cases h5 : m.s = st.m.s
      ·have : ¬ st.best < (i : Int) := fun q => h2 (.inr ⟨h5, q⟩)
       exact .inr ⟨by grind, by omega⟩
      ·exact .inl (by grind)
   ·subst hj
    rw [hi] at hm'
    cases hm'
    exact .inr ⟨rfl, Nat.le_refl _⟩
theorem Bst.leaf {h : Nat → Option M3} : ∀ (l : List Nat) {A : Nat → Prop} {st : WS}, Bst h A st → Bst h (fun j => A j ∨ j ∈ l) (leafS h l st)
 | [], A, st, hb => hb.congr fun j => by simp
 | i :: l, A, st, hb => (Bst.leaf l (hb.take i)).congr fun j => by simp only [List.mem_cons, or_assoc]
theorem Bst.same {h : Nat → Option M3} {A : Nat → Prop} {st st' : WS} (h1 : Bst h A st) (h2 : Bst h A st') : st = st' := by
 rcases h1 with ⟨e, hn⟩ | ⟨k, e, ha, hk, hm⟩ <;> rcases h2 with ⟨e', hn'⟩ | ⟨k', e', ha', hk', hm'⟩
 ·rw [e, e']
 ·rw [hn k' ha'] at hk'; cases hk'
 ·rw [hn' k ha] at hk; cases hk
 ·have a1 := hm k' _ ha' hk'
  have a2 := hm' k _ ha hk
  have hkk : k = k' := by
   rcases a1 with a1 | a1 <;> rcases a2 with a2 | a2
   ·grind
   ·grind
   ·grind
   ·omega
  subst hkk
  rw [hk] at hk'
  obtain ⟨b, m⟩ := st
  obtain ⟨b', m'⟩ := st'
  simp only at *
  cases hk'
  rw [e, e']
theorem Bst.none' {h : Nat → Option M3} {A B : Nat → Prop} {st : WS} (hb : Bst h A st) (hn : ∀ j m, B j → h j = some m → 0 ≤ st.best ∧ st.m.s < m.s) : Bst h (fun j => A j ∨ B j) st := by
 rcases hb with ⟨e, hn'⟩ | ⟨k, e, ha, hk, hm⟩
 ·refine .inl ⟨e, fun j hj => ?_⟩
  rcases hj with hj | hj
  ·exact hn' j hj
  ·cases hh : h j with
   | none => rfl
   | some m =>
    have := (hn j m hj hh).1
    rw [e] at this
    exact absurd this (by show ¬ (0 : Int) ≤ -1; omega)
 ·refine .inr ⟨k, e, .inl ha, hk, fun j m hj hm' => ?_⟩
  rcases hj with hj | hj
  ·exact hm j m hj hm'
  ·exact .inl (hn j m hj hm').2
theorem meet_box {o d : V3} {t : TL} {m : M3} {b : B3} (ha : holds b (vv t.a)) (hb : holds b (vv t.b)) (hc : holds b (vv t.c)) (h : hitS o d (tv t) = some m) : holds b (vat o d m.s) := by
 obtain ⟨_, _, hu, hv, huv, hp⟩ := hit_point h
 rw [hp]
 refine ⟨?_, ?_, ?_⟩
 ·have := btw_mix ha.1 hb.1 hc.1 hu hv huv
  simp only [vadd, vmul, vsub, tv]; rw [← Rat.add_assoc]; exact this
 ·have := btw_mix ha.2.1 hb.2.1 hc.2.1 hu hv huv
  simp only [vadd, vmul, vsub, tv]; rw [← Rat.add_assoc]; exact this
 ·have := btw_mix ha.2.2 hb.2.2 hc.2.2 hu hv huv
  simp only [vadd, vmul, vsub, tv]; rw [← Rat.add_assoc]; exact this
def TR.set (order : List Nat) : TR → List Nat
 | .leaf _ _ f c => (order.drop f).take c
 | .inner _ _ l r => l.set order ++ r.set order
def boxHolds (tris : List TL) (b : B3) (l : List Nat) : Prop := ∀ j, j ∈ l → ∀ t, tris[j]? = some t → holds b (vv t.a) ∧ holds b (vv t.b) ∧ holds b (vv t.c)
def TR.held (order : List Nat) (tris : List TL) : TR → Prop
 | .leaf i n f c => boxHolds tris (bv n.box) ((order.drop f).take c)
 | .inner i n l r => boxHolds tris (bv n.box) (l.set order ++ r.set order) ∧ l.held order tris ∧ r.held order tris
theorem miss_none {o d : VL} {tris : List TL} {n : NodeL} {st : WS} {l : List Nat} (hb : boxHolds tris (bv n.box) l) (hm : missS o d n st = true) : ∀ j m, j ∈ l → hitAt o d tris j = some m → 0 ≤ st.best ∧ st.m.s < m.s := fun j m hj hh => by
 unfold hitAt at hh
 cases ht : tris[j]? with
 | none => rw [ht] at hh; cases hh
 | some t =>
  rw [ht] at hh
  obtain ⟨h1, h2, h3⟩ := hb j hj t ht
  have hin := meet_box h1 h2 h3 hh
  have hs := (hit_point hh).2.1
  have hw := within_law (o := vv o) (d := vv d) (b := bv n.box) (s := m.s) (by grind)
  rw [decide_eq_true hin] at hw
  unfold missS at hm
  have hw' := hw.symm
  rw [Bool.and_eq_true, Bool.and_eq_true] at hw'
  obtain ⟨hok, hfr, _⟩ := hw'
  have hfr' := of_decide_eq_true hfr
  rw [hok] at hm
  simp only [Bool.not_true, Bool.false_or, Bool.and_eq_true, decide_eq_true_eq] at hm
  exact ⟨hm.1, by have := hm.2; grind⟩
theorem walk_best {o d : VL} {order : List Nat} {tris : List TL} : ∀ (t : TR) {A : Nat → Prop} (x : WS × List Bool), t.held order tris → Bst (hitAt o d tris) A x.1 → Bst (hitAt o d tris) (fun j => A j ∨ j ∈ t.set order) (walk o d order tris t x).1
 | .leaf i n f c, A, x, hh, hb => by
  unfold walk
  by_cases hm : missS o d n x.1 = true
  ·rw [if_pos hm]; exact hb.none' (miss_none hh hm)
  ·rw [if_neg hm]; exact hb.leaf _
 | .inner i n l r, A, x, hh, hb => by
  unfold walk
  by_cases hm : missS o d n x.1 = true
  ·rw [if_pos hm]; exact hb.none' (miss_none hh.1 hm)
  ·rw [if_neg hm]
   refine (walk_best r (walk o d order tris l (x.1, x.2.set i true)) hh.2.2 (walk_best l (x.1, x.2.set i true) hh.2.1 hb)).congr (B := fun j => A j ∨ j ∈ TR.set order (TR.inner i n l r)) fun j => by simp only [TR.set, List.mem_append, or_assoc]
theorem near_best {o d : VL} {order : List Nat} {tris : List TL} {n : Nat} {t : TR} (hh : t.held order tris) : Bst (hitAt o d tris) (fun j => j ∈ t.set order) (nearS o d order tris n t) :=
 (walk_best t (A := fun _ => False) (st0, List.replicate n false) hh (.inl ⟨rfl, fun _ h => h.elim⟩)).congr fun j => by simp
def tl0 : TL := ⟨⟨⟨false, [], []⟩, ⟨false, [], []⟩, ⟨false, [], []⟩⟩, ⟨⟨false, [], []⟩, ⟨false, [], []⟩, ⟨false, [], []⟩⟩, ⟨⟨false, [], []⟩, ⟨false, [], []⟩, ⟨false, [], []⟩⟩⟩
def tlAt (tris : List TL) (i : Nat) : TL := (tris[i]?).getD tl0
theorem leaf_holds (t : TL) : holds (bjoins ([t.a, t.b, t.c].map pbox)) (vv t.a) ∧ holds (bjoins ([t.a, t.b, t.c].map pbox)) (vv t.b) ∧ holds (bjoins ([t.a, t.b, t.c].map pbox)) (vv t.c) := by
 have hs := (around_says [t.a, t.b, t.c] (by simp)).1
 exact ⟨hs t.a (by simp), hs t.b (by simp), hs t.c (by simp)⟩
end Go.K
end
section
namespace Go.K
open Go Go.K.S
def firstS (o d : VL) (tris : List TL) : WS := leafS (hitAt o d tris) (List.range tris.length) st0
theorem first_best (o d : VL) (tris : List TL) : Bst (hitAt o d tris) (fun j => j < tris.length) (firstS o d tris) :=
 (Bst.leaf (List.range tris.length) (A := fun _ => False) (st := st0) (.inl ⟨rfl, fun _ h => h.elim⟩)).congr fun j => by simp
theorem near_first {o d : VL} {order : List Nat} {tris : List TL} {n : Nat} {t : TR} (hh : t.held order tris) (hs : ∀ j, j ∈ t.set order ↔ j < tris.length) : nearS o d order tris n t = firstS o d tris :=
 ((near_best hh).congr hs).same (first_best o d tris)
end Go.K
namespace Go.K.S
open Go Go.K
def unitT : TL := ⟨Ψ .cV ⟨((0 : Int) : Rat), ((0 : Int) : Rat), ((0 : Int) : Rat)⟩, Ψ .cV ⟨((1 : Int) : Rat), ((0 : Int) : Rat), ((0 : Int) : Rat)⟩, Ψ .cV ⟨((0 : Int) : Rat), ((1 : Int) : Rat), ((0 : Int) : Rat)⟩⟩
def unit3 : T3 := ⟨⟨((0 : Int) : Rat), ((0 : Int) : Rat), ((0 : Int) : Rat)⟩, ⟨((1 : Int) : Rat), ((0 : Int) : Rat), ((0 : Int) : Rat)⟩, ⟨((0 : Int) : Rat), ((1 : Int) : Rat), ((0 : Int) : Rat)⟩⟩
theorem unit_tv : tv unitT = unit3 := by
 simp only [tv, unitT, vv_cV]; rfl
end Go.K.S
namespace Go.K
open Go Go.K.S
instance : DecidableEq M3 := fun _ _ => decidable_of_iff _ M3.ext_iff'.symm
theorem take_two (m : M3) : takeS (some m) 1 (takeS (some m) 0 st0) = ⟨0, m⟩ := by
 have h0 : takeS (some m) 0 st0 = ⟨0, m⟩ := by
  unfold takeS
  simp only
  rw [if_neg (fun q => absurd q.1 (by show ¬ (0 : Int) ≤ -1; omega))]
  rfl
 rw [h0]
 unfold takeS
 simp only
 rw [if_pos ⟨by omega, .inr ⟨trivial, by omega⟩⟩]
def vI (x y z : Int) : V3 := ⟨(x : Rat), (y : Rat), (z : Rat)⟩
theorem first_two (o d : V3) : firstS (Ψ .cV o) (Ψ .cV d) [unitT, unitT] = takeS (hitS o d unit3) 1 (takeS (hitS o d unit3) 0 st0) := by
 have h0 : hitAt (Ψ .cV o) (Ψ .cV d) [unitT, unitT] 0 = hitS o d unit3 := by
  show hitS (vv (Ψ .cV o)) (vv (Ψ .cV d)) (tv unitT) = _
  rw [vv_cV, vv_cV, unit_tv]
 have h1 : hitAt (Ψ .cV o) (Ψ .cV d) [unitT, unitT] 1 = hitS o d unit3 := by
  show hitS (vv (Ψ .cV o)) (vv (Ψ .cV d)) (tv unitT) = _
  rw [vv_cV, vv_cV, unit_tv]
 show takeS _ 1 (takeS _ 0 st0) = _
 rw [h0, h1]
theorem t1 : hitS (vI 0 0 2) (vI 0 0 (-1)) unit3 = some ⟨2, 0, 0⟩ := by decide +kernel
theorem t2 : hitS (vI 0 0 0) (vI 1 1 0) unit3 = none := by decide +kernel
theorem t3 : hitS (vI 0 0 1) (vsub (vI 0 0 (-1)) (vI 0 0 1)) unit3 = some ⟨1 / 2, 0, 0⟩ := by decide +kernel
theorem f1 : firstS (Ψ .cV (vI 0 0 2)) (Ψ .cV (vI 0 0 (-1))) [unitT, unitT] = ⟨0, ⟨2, 0, 0⟩⟩ := by
 rw [first_two, t1, take_two]
theorem f2 : firstS (Ψ .cV (vI 0 0 0)) (Ψ .cV (vI 1 1 0)) [unitT, unitT] = st0 := by
 rw [first_two, t2]; rfl
theorem f3 : firstS (Ψ .cV (vI 0 0 1)) (Ψ .cV (vsub (vI 0 0 (-1)) (vI 0 0 1))) [unitT, unitT] = ⟨0, ⟨1 / 2, 0, 0⟩⟩ := by
 rw [first_two, t3, take_two]
end Go.K
namespace Go.K.S
open Go Go.K
end Go.K.S
end
section
namespace Go.K
open Go
def bxT (t : TL) : BL := Ψ .cB (bjoins ([t.a, t.b, t.c].map pbox))
def axI (v : VL) (i : Int) : RL := if i = 0 then v.x else if i = 1 then v.y else v.z
def aheadS (m : Nat → VL) (al : Int) (i k : Nat) : Bool :=
 decide (rv (axI (m i) al) < rv (axI (m k) al)) || (decide (rv (axI (m i) al) = rv (axI (m k) al)) && decide (i < k))
def extS (b : BL) (i : Int) : Rat := rv (axI b.hi i) - rv (axI b.lo i)
def widS (b : BL) : Int :=
 if extS b (if extS b 0 < extS b 1 then 1 else 0) < extS b 2 then 2 else if extS b 0 < extS b 1 then 1 else 0
def partS (lt : Nat → Nat → Bool) : Nat → List Nat → Nat → List Nat
 | 0, l, _ => l
 | f + 1, l, n =>
  if 1 < l.length then
   let p := l.getD (l.length / 2) 0
   let low := l.filter fun i => lt i p
   let high := l.filter fun i => !lt i p && decide (i ≠ p)
   if n < low.length then partS lt f low n ++ p :: high
   else if n = low.length then low ++ p :: high
   else low ++ p :: partS lt f high (n - (low.length + 1))
  else l
def bcell (Ψ : (t : Sd) → STy t) (n o a : V) (TD : List D) : List V := [n, o, V.d (.sl TD), a]
theorem axI_n {k : Nat} {v : VL} (h : Vn k v) (i : Int) : Rn k (axI v i) := by
 unfold axI; split
 ·exact h.x
 ·split
  ·exact h.y
  ·exact h.z
end Go.K
end
section
namespace Go.K.S
open Go Go.K
theorem taround_good (t : TL) {k : Nat} (ht : Tn k t) (hk : 0 < k) (hk2 : k < 68719476736) :
  Good P F.bvh_around [.d (.agg (dT Ψ t))] [] (.d (.agg (dB Ψ (bxT t)))) [] := by
 refine G.bvh_around fun C C2 hC hC2 => ?_
 have g := around_good [t.a, t.b, t.c] (k := k) (fun b hb => by
  simp only [List.mem_cons, List.not_mem_nil, or_false] at hb
  rcases hb with rfl | rfl | rfl
  ·exact ht.a
  ·exact ht.b
  ·exact ht.c) (by simp) hk hk2
 have e : Ψ .dVs [t.a, t.b, t.c] = [.agg (dV Ψ t.a), .agg (dV Ψ t.b), .agg (dV Ψ t.c)] := rfl
 rw [e] at g
 have e2 : bxT t = Ψ .cB (bjoins ([t.a, t.b, t.c].map pbox)) := rfl
 rw [← e2] at g
 generalize bxT t = R at *
 exact rn trivial
theorem axis_good (v : VL) (i : Int) : Good P F.bvh_axis [.d (.agg (dV Ψ v)), .d (.i .i64 i)] [] (.d (.agg (dR Ψ (axI v i)))) [] := by
 refine G.bvh_axis fun C C2 hC hC2 => ?_
 by_cases h0 : i = 0
 ·subst h0
  have e : axI v 0 = v.x := rfl
  rw [e]
  exact rn trivial
 ·have q0 := eq_false'.2 h0
  by_cases h1 : i = 1
  ·subst h1
   have e : axI v 1 = v.y := rfl
   rw [e]
   exact rn trivial
  ·have q1 := eq_false'.2 h1
   have e : axI v i = v.z := by unfold axI; rw [if_neg h0, if_neg h1]
   rw [e]
   exact rn trivial
theorem sget_lt {xs : List D} {k : Nat} {x : D} (h : Ω .sget xs k = some x) : k < Ω .slen xs := by
 rw [w_sget] at h
 exact (List.getElem?_eq_some_iff.1 h).1
theorem ahead_good {ND OD TD AT : List D} (m : Nat → VL) (i k : Nat) (al : Int) {j : Nat} (hi : Ω .sget AT i = some (.agg (dV Ψ (m i)))) (hk : Ω .sget AT k = some (.agg (dV Ψ (m k)))) (hm : ∀ i, Vn j (m i)) (hj : j < 68719476736) :
  Good P F.P_bvh_builder_ahead [.ptr 0 0, .d (.i .i64 (Ω .ci i)), .d (.i .i64 (Ω .ci k)), .d (.i .i64 al)] [.var (bcell Ψ (.own 1 22) (.own 2 1) (.own 3 9) TD), .row true T.api_Node 22 ND, .row true T.int 1 OD, .row true T.api_Vec 9 AT]
   (.d (.b (aheadS m al i k))) [.var (bcell Ψ (.own 1 22) (.own 2 1) (.own 3 9) TD), .row true T.api_Node 22 ND, .row true T.int 1 OD, .row true T.api_Vec 9 AT] := by
 refine G.P_bvh_builder_ahead (hb := of_decide_eq_true rfl) fun C C2 hC hC2 => ?_
 have g1 := axis_good (m i) al
 have g2 := axis_good (m k) al
 have g3 := rcmp_good (axI (m i) al) (axI (m k) al) (axI_n (hm i) al) (axI_n (hm k) al) hj hj
 have z1 := @cI_neg (rv (axI (m i) al)) (rv (axI (m k) al))
 have z2 := @cI_zero (rv (axI (m i) al)) (rv (axI (m k) al))
 unfold aheadS
 have l1 := sget_lt hi
 have l2 := sget_lt hk
 generalize rv (axI (m i) al) = x at *
 generalize rv (axI (m k) al) = y at *
 generalize axI (m i) al = ai at *
 generalize axI (m k) al = ak at *
 generalize Ψ .cI x y = c at *
 generalize m i = mi at *
 generalize m k = mk at *
 by_cases h1 : x < y
 ·rw [decide_eq_true h1, Bool.true_or]
  have q1 := lt_true.2 (z1.2 h1)
  have q2 : c ≠ 0 := by have := z1.2 h1; omega
  refine rk ?_
  exact ⟨[], rfl, rfl, rfl⟩
 ·rw [decide_eq_false h1, Bool.false_or]
  have q1 := lt_false.2 (Int.not_lt.1 (mt z1.1 h1))
  by_cases h2 : x = y
  ·rw [decide_eq_true h2, Bool.true_and]
   have q2 := eq_true'.2 (z2.2 h2)
   by_cases h3 : i < k
   ·rw [decide_eq_true h3]
    have q3 : Ω .lt (Ω .ci i) (Ω .ci k) = true := by simp only [wz]; omega
    refine rk ?_
    exact ⟨[], rfl, rfl, rfl⟩
   ·rw [decide_eq_false h3]
    have q3 : Ω .lt (Ω .ci i) (Ω .ci k) = false := by simp only [wz]; omega
    refine rk ?_
    exact ⟨[], rfl, rfl, rfl⟩
  ·rw [decide_eq_false h2, Bool.false_and]
   have q2 := eq_false'.2 (mt z2.1 h2)
   refine rk ?_
   exact ⟨[], rfl, rfl, rfl⟩
end Go.K.S
end
section
namespace Go.K
open Go
def bxM (m : Nat → VL) (l : List Nat) : BL := Ψ .cB (bjoins ((l.map m).map pbox))
structure BuildH (order : List Nat) (m : Nat → VL) (OD AT : List D) : Prop where
 o : ∀ (j i : Nat), order[j]? = some i → Ω .sget OD j = some (.i .i64 (Ω .ci i))
 ol : Ω .slen OD = order.length
 a : ∀ (i : Nat), i ∈ order → Ω .sget AT i = some (.agg (dV Ψ (m i)))
 os : order.length < 100000
end Go.K
namespace Go.K.S
open Go Go.K
theorem widest_good {order : List Nat} {m : Nat → VL} {ND OD TD AT : List D} (H : BuildH order m OD AT) (f c : Nat) {k : Nat} (hfc : f + c ≤ order.length) (hc0 : 0 < c) (hm : ∀ i, Vn k (m i)) (hk : 0 < k) (hk2 : k < 134217728) :
  Good P F.P_bvh_builder_widest [.ptr 0 0, .d (.i .i64 (Ω .ci f)), .d (.i .i64 (Ω .ci c))] [.var (bcell Ψ (.own 1 22) (.own 2 1) (.own 3 9) TD), .row true T.api_Node 22 ND, .row true T.int 1 OD, .row true T.api_Vec 9 AT]
   (.d (.i .i64 (widS (bxM m ((order.drop f).take c))))) [.var (bcell Ψ (.own 1 22) (.own 2 1) (.own 3 9) TD), .row true T.api_Node 22 ND, .row true T.int 1 OD, .row true T.api_Vec 9 AT] := by
 refine G.P_bvh_builder_widest (hb := of_decide_eq_true rfl) fun C C2 hC hC2 => ?_
 have hos := H.os
 have ga := around_good (((order.drop f).take c).map m) (k := k) (fun b hb => by
  obtain ⟨i, _, rfl⟩ := List.mem_map.1 hb
  exact hm i) (by rw [List.length_map, List.length_take, List.length_drop]; omega) hk (by omega)
 have eB : Ψ .cB (bjoins ((((order.drop f).take c).map m).map pbox)) = bxM m ((order.drop f).take c) := rfl
 rw [eB] at ga
 have hB : Bn k (bxM m ((order.drop f).take c)) := Bn_cB (Bq_joins hk _ (fun b hb => by
  obtain ⟨v, hv, rfl⟩ := List.mem_map.1 hb
  obtain ⟨i, _, rfl⟩ := List.mem_map.1 hv
  exact ⟨hm i, hm i⟩))
 generalize bxM m ((order.drop f).take c) = B at *
 have hst : ∀ j i, j < c → order[f + j]? = some i → ((order.drop f).take (j + 1)).map m = ((order.drop f).take j).map m ++ [m i] := fun j i hj hi => by
  rw [take_succ_of (l := order.drop f) (i := j) (x := i) (by rw [List.getElem?_drop]; exact hi)]; simp
 have hz : ((order.drop f).take 0).map m = [] := rfl
 have hlen : ∀ j, j ≤ c → (((order.drop f).take j).map m).length = j := fun j hj => by simp; omega
 obtain ⟨S, hS⟩ : ∃ S : Nat → List VL, S = fun j => ((order.drop f).take j).map m := ⟨_, rfl⟩
 have hSe : ∀ j, ((order.drop f).take j).map m = S j := fun j => by rw [hS]
 simp only [hSe] at hst hz hlen ga
 clear hSe hS
 have hw : Ω .wrap .i64 (Ω .ci f + Ω .ci c) = Ω .ci (f + c) := by rw [wrap_add (by omega)]
 have hol := H.ol
 refine rk ?_
 rw [hw]
 refine rk ?_
 refine ⟨ci_nonneg _, (by simp only [wz]; omega), (by simp only [wz]; omega), (by simp only [wz]; omega), ?_⟩
 refine rk ?_
 refine ⟨(fun h => nomatch h), ?_⟩
 have e1 : Ω .nsub (f + c) f = c := by simp only [wz]; omega
 rw [e1]
 refine LoopG.intro2 (σ := Nat) [0, 7, 22, 23, 24] (fun i => match i with | 0 => [0, 1, 2, 3] | _ + 1 => [0, 1, 2, 3, 1050])
   (fun i => [.ptr 0 0, match i with | 0 => .nil | _ + 1 => .own 1050 9, .ref 2 1 f c, .d (.i .i64 (Ω .ci c)), .d (.i .i64 (Ω .ci i))])
   (fun i => .var (bcell Ψ (.own 1 22) (.own 2 1) (.own 3 9) TD) :: .row true T.api_Node 22 ND :: .row true T.int 1 OD :: .row true T.api_Vec 9 AT :: match i with | 0 => [] | i + 1 => [.row true T.api_Vec 9 (Ψ .dVs (S (i + 1)))])
   (fun i => i ≤ c)
   (fun i => c - i) 0 [0, 1, 2, 3] (Nat.zero_le _) ⟨rfl, rfl, rfl⟩ ?_
 have hel : ∀ j, j < c → ∃ i, order[f + j]? = some i ∧ Ω .sget OD (Ω .nadd f j) = some (.i .i64 (Ω .ci i)) ∧ Ω .sget AT i = some (.agg (dV Ψ (m i))) ∧ i < Ω .slen AT := fun j hj => by
  obtain ⟨i, hi⟩ : ∃ i, order[f + j]? = some i := ⟨_, List.getElem?_eq_getElem (by omega)⟩
  have ha := H.a i (List.mem_of_getElem? hi)
  exact ⟨i, hi, H.o _ _ hi, ha, sget_lt ha⟩
 rintro (_ | j) hj
 ·obtain ⟨i, hi, h1, h2, h3⟩ := hel 0 hc0
  have e := hst 0 i hc0 hi
  rw [hz] at e
  have hq : Ω .lt 0 (Ω .ci c) = true := by simp only [wz]; omega
  refine rk ?_
  refine ⟨1, [0, 1, 2, 3, 1509], hc0, by omega, rfl, ?_, ?_⟩
  ·refine Eq.trans (b := [.ptr 0 0, .own 1050 9, .ref 2 1 f c, .d (.i .i64 (Ω .ci c)), .d (.i .i64 _)]) rfl ?_
   rw [wrap_succ (by omega)]
  ·simp only
   rw [e]
   rfl
 ·have hsl := hlen (j + 1) hj
  rcases Nat.lt_or_ge (j + 1) c with hlt | hge
  ·obtain ⟨i, hi, h1, h2, h3⟩ := hel (j + 1) hlt
   have e := hst (j + 1) i hlt hi
   have hq : Ω .lt (Ω .ci (j + 1)) (Ω .ci c) = true := by simp only [wz]; omega
   refine rk ?_
   refine ⟨j + 1 + 1, [0, 1, 2, 3, 1509], hlt, by omega, rfl, ?_, ?_⟩
   ·refine Eq.trans (b := [.ptr 0 0, .own 1050 9, .ref 2 1 f c, .d (.i .i64 (Ω .ci c)), .d (.i .i64 _)]) rfl ?_
    rw [wrap_succ (by omega)]
   ·simp only
    rw [e, ← scat_dVs]
    rfl
  ·have hl0 : j + 1 = c := by omega
   have hq : Ω .lt (Ω .ci (j + 1)) (Ω .ci c) = false := by simp only [wz]; omega
   rw [← hl0] at ga
   obtain ⟨lo, hi⟩ := B
   obtain ⟨bs, b1, b2, b3⟩ : ∃ bs : Nat → Int, bs 1 = 0 ∧ (∀ x, 0 < x → x < 3 → bs (x + 1) = if extS ⟨lo, hi⟩ (bs x) < extS ⟨lo, hi⟩ (il x) then il x else bs x) ∧ bs 3 = widS ⟨lo, hi⟩ := by
    refine ⟨fun x => match x with | 0 => 0 | 1 => 0 | 2 => if extS ⟨lo, hi⟩ 0 < extS ⟨lo, hi⟩ 1 then 1 else 0 | _ => widS ⟨lo, hi⟩, rfl, fun x h1 h2 => ?_, rfl⟩
    obtain rfl | rfl : x = 1 ∨ x = 2 := by omega
    ·rfl
    ·rfl
   rw [← b3]
   refine rk ?_
   refine LoopG.intro (σ := Nat) [10, 11, 12] [0, 1, 2, 3, 1050]
    (fun x => [.ptr 1050 0, .d (.i .i64 (bs x)), .d (.i .i64 (il x))])
    (fun x => [.var (bcell Ψ (.own 1 22) (.own 2 1) (.own 3 9) TD), .row true T.api_Node 22 ND, .row true T.int 1 OD, .row true T.api_Vec 9 AT, .var ((dB Ψ ⟨lo, hi⟩).map V.d)])
    (fun x => 0 < x ∧ x ≤ 3)
    (fun x => 3 - x) 1 [0, 1, 2, 3, 1702] ⟨by omega, by omega⟩ ⟨rfl, (by show _ = [V.ptr 1050 0, .d (.i .i64 (bs 1)), .d (.i .i64 (il 1))]; rw [b1]; rfl), rfl⟩ ?_
   rintro x ⟨hx1, hx3⟩
   rcases Nat.lt_or_ge x 3 with hlt | hge
   ·have q1 : Ω .lt (il x) 3 = true := by
     obtain rfl | rfl : x = 1 ∨ x = 2 := by omega
     ·decide
     ·decide
    have q2 : Ω .wrap .i64 (il x + 1) = il (x + 1) := by
     obtain rfl | rfl : x = 1 ∨ x = 2 := by omega
     ·decide
     ·decide
    have hs := b2 x hx1 hlt
    have ga1 := axis_good hi (il x)
    have ga2 := axis_good lo (il x)
    have ga3 := axis_good hi (bs x)
    have ga4 := axis_good lo (bs x)
    have n1 := axI_n hB.hi (il x)
    have n2 := axI_n hB.lo (il x)
    have n3 := axI_n hB.hi (bs x)
    have n4 := axI_n hB.lo (bs x)
    have gs1 := rsub_good _ _ n1 n2 hk hk (by omega) (by omega)
    have gs2 := rsub_good _ _ n3 n4 hk hk (by omega) (by omega)
    have gc := rcmp_good (Ψ .cr (rv (axI hi (il x)) - rv (axI lo (il x)))) (Ψ .cr (rv (axI hi (bs x)) - rv (axI lo (bs x)))) (Rn_cr.2 (Qn_sub (Qn_rv n1 hk) (Qn_rv n2 hk))) (Rn_cr.2 (Qn_sub (Qn_rv n3 hk) (Qn_rv n4 hk))) (by omega) (by omega)
    rw [rv_cr, rv_cr] at gc
    have z := @cI_pos (rv (axI hi (il x)) - rv (axI lo (il x))) (rv (axI hi (bs x)) - rv (axI lo (bs x)))
    have ez1 : extS ⟨lo, hi⟩ (il x) = rv (axI hi (il x)) - rv (axI lo (il x)) := rfl
    have ez2 : extS ⟨lo, hi⟩ (bs x) = rv (axI hi (bs x)) - rv (axI lo (bs x)) := rfl
    rw [← ez1, ← ez2] at z gc
    rw [← ez1] at gs1
    rw [← ez2] at gs2
    generalize extS ⟨lo, hi⟩ (il x) = u at *
    generalize extS ⟨lo, hi⟩ (bs x) = v at *
    generalize Ψ .cI u v = ci at *
    generalize axI hi (il x) = a1 at *
    generalize axI lo (il x) = a2 at *
    generalize axI hi (bs x) = a3 at *
    generalize axI lo (bs x) = a4 at *
    generalize Ψ .cr u = U at *
    generalize Ψ .cr v = W at *
    generalize hxi : il x = xi at *
    generalize hbx : bs x = bx at *
    by_cases h : v < u
    ·rw [if_pos h] at hs
     have q3 := lt_true.2 (z.2 h)
     refine rk ?_
     refine ⟨x + 1, [0, 1, 2, 3, 1050], ⟨by omega, hlt⟩, by omega, rfl, ?_, rfl⟩
     rw [hs, ← q2]
     rfl
    ·rw [if_neg h] at hs
     have q3 := lt_false.2 (Int.not_lt.1 (mt z.1 h))
     refine rk ?_
     refine ⟨x + 1, [0, 1, 2, 3, 1050], ⟨by omega, hlt⟩, by omega, rfl, ?_, rfl⟩
     rw [hs, ← q2]
     rfl
   ·obtain rfl : x = 3 := by omega
    generalize bs 3 = bx at *
    refine rk ?_
    exact ⟨[], rfl, rfl, rfl⟩
end Go.K.S
end
section
namespace Go.K
open Go
def lowS (lt : Nat → Nat → Bool) (p : Nat) (l : List Nat) : List Nat := l.filter fun i => lt i p
def highS (lt : Nat → Nat → Bool) (p : Nat) (l : List Nat) : List Nat := l.filter fun i => !lt i p && decide (i ≠ p)
theorem split_perm {lt : Nat → Nat → Bool} {p : Nat} {l : List Nat} (hn : l.Nodup) (hp : p ∈ l) (hi : lt p p = false) : (lowS lt p l ++ p :: highS lt p l).Perm l := by
 have h1 : (l.filter (fun i => lt i p) ++ l.filter (fun i => !lt i p)).Perm l := List.filter_append_perm _ l
 have hM : (l.filter fun i => !lt i p).Nodup := hn.filter _
 have hpM : p ∈ l.filter fun i => !lt i p := List.mem_filter.2 ⟨hp, by simp [hi]⟩
 have h2 : highS lt p l = (l.filter fun i => !lt i p).erase p := by
  rw [hM.erase_eq_filter]
  unfold highS
  rw [List.filter_filter]
  congr 1
  funext i
  rw [Bool.and_comm]
  congr 1
  by_cases c : i = p <;> simp [c]
 have h3 : (p :: highS lt p l).Perm (l.filter fun i => !lt i p) := by
  rw [h2]; exact (List.perm_cons_erase hpM).symm
 exact (h3.append_left _).trans h1
theorem split_len {lt : Nat → Nat → Bool} {p : Nat} {l : List Nat} (hn : l.Nodup) (hp : p ∈ l) (hi : lt p p = false) : (lowS lt p l).length + 1 + (highS lt p l).length = l.length := by
 have := (split_perm hn hp hi).length_eq
 simp only [List.length_append, List.length_cons] at this
 omega
theorem partS_small {lt : Nat → Nat → Bool} {f : Nat} {l : List Nat} {n : Nat} (h : l.length ≤ 1) : partS lt f l n = l := by
 cases f with
 | zero => rfl
 | succ f => unfold partS; rw [if_neg (by omega)]
theorem partS_step {lt : Nat → Nat → Bool} {f : Nat} {l : List Nat} {n p : Nat} (h : 1 < l.length) (hp : l[l.length / 2]? = some p) :
  partS lt (f + 1) l n = if n < (lowS lt p l).length then partS lt f (lowS lt p l) n ++ p :: highS lt p l
   else if n = (lowS lt p l).length then lowS lt p l ++ p :: highS lt p l else lowS lt p l ++ p :: partS lt f (highS lt p l) (n - ((lowS lt p l).length + 1)) := by
 have e : l.getD (l.length / 2) 0 = p := by simp [List.getD, hp]
 rw [partS, if_pos h, e]
 rfl
theorem partS_perm {lt : Nat → Nat → Bool} (hi : ∀ p, lt p p = false) : ∀ (f : Nat) (l : List Nat) (n : Nat), l.Nodup → (partS lt f l n).Perm l
 | 0, l, n, _ => .refl _
 | f + 1, l, n, hn => by
  by_cases h : 1 < l.length
  ·obtain ⟨p, hp⟩ : ∃ p, l[l.length / 2]? = some p := ⟨_, List.getElem?_eq_getElem (by omega)⟩
   rw [partS_step h hp]
   have hs := split_perm (lt := lt) hn (List.mem_of_getElem? hp) (hi p)
   have h1 := partS_perm hi f (lowS lt p l) n (hn.filter _)
   have h2 := partS_perm hi f (highS lt p l) (n - ((lowS lt p l).length + 1)) (hn.filter _)
   split
   ·exact (h1.append_right _).trans hs
   ·split
    ·exact hs
    ·exact ((h2.cons p).append_left _).trans hs
  ·rw [partS_small (by omega)]
theorem part_write {A low high : List Nat} {off len p : Nat} (h : off + len ≤ A.length) (hl : low.length + 1 + high.length = len) {A1 A2 : List Nat}
  (h1 : A1 = A.take off ++ low ++ A.drop (off + low.length)) (h2 : A2 = A1.set (off + low.length) p) :
  A2.take (off + (low.length + 1)) ++ high ++ A2.drop (off + (low.length + 1) + high.length) = A.take off ++ (low ++ p :: high) ++ A.drop (off + len) := by
 have l0 : (A.take off).length = off := by rw [List.length_take]; omega
 have e2 : A2 = (A.take off ++ low) ++ p :: A.drop (off + low.length + 1) := by
  rw [h2, h1]
  obtain ⟨q, r, hq⟩ : ∃ q r, A.drop (off + low.length) = q :: r := by
   cases hd : A.drop (off + low.length) with
   | nil => have := congrArg List.length hd; rw [List.length_drop, List.length_nil] at this; omega
   | cons q r => exact ⟨q, r, rfl⟩
  have hr : A.drop (off + low.length + 1) = r := by
   rw [← List.drop_drop, hq]; rfl
  rw [hq, hr, List.set_append_right _ _ (by rw [List.length_append, l0]; exact Nat.le_refl _)]
  rw [List.length_append, l0, Nat.sub_self]; rfl
 have l1 : ((A.take off ++ low) ++ [p]).length = off + (low.length + 1) := by simp only [List.length_append, l0, List.length_singleton]; omega
 have e3 : A2 = ((A.take off ++ low) ++ [p]) ++ A.drop (off + low.length + 1) := by rw [e2]; simp
 rw [e3, List.take_left' l1]
 rw [← List.drop_drop, List.drop_left' l1, List.drop_drop]
 simp only [List.append_assoc, List.cons_append, List.nil_append]
 rw [show off + low.length + 1 + high.length = off + len by omega]
end Go.K
end
section
namespace Go.K
open Go
def oD (l : List Nat) : List D := l.map fun i => .i .i64 (Ω .ci i)
structure OF (O : List Nat → List D) : Prop where
 get : ∀ (A : List Nat) (j i : Nat), A[j]? = some i → Ω .sget (O A) j = some (.i .i64 (Ω .ci i))
 len : ∀ A, Ω .slen (O A) = A.length
 cat : ∀ A i, Ω .scat (O A) [.i .i64 (Ω .ci i)] = O (A ++ [i])
 cpy : ∀ A l off len, l.length ≤ len → Ω .scpy (O A) off (Ω .ssub (O l) 0 len) = O (A.take off ++ l ++ A.drop (off + l.length))
 set : ∀ A k i, Ω .sset (O A) k (.i .i64 (Ω .ci i)) = O (A.set k i)
 nil : O [] = []
 one : ∀ A u, u ∈ O A → u.cells.length = 1
theorem oD_ok : OF oD where
 get := fun A j i h => by simp [oD, w_sget, h]
 len := fun A => by simp [oD, w_slen]
 cat := fun A i => by simp [oD, w_scat]
 cpy := fun A l off len h => by
  have e : (oD l).take len = oD l := List.take_of_length_le (by simp [oD]; exact h)
  simp only [w_scpy, w_ssub, List.drop_zero, e]
  simp [oD]
 set := fun A k i => by simp [oD, w_sset, List.map_set]
 nil := rfl
 one := fun A u h => by
  obtain ⟨i, _, rfl⟩ := List.mem_map.1 h
  rfl
structure PS where
 off : Nat
 len : Nat
 n : Nat
 A : List Nat
end Go.K
namespace Go.K.S
open Go Go.K
theorem part_good {order : List Nat} {m : Nat → VL} {ND TD AT : List D} (hA : ∀ i, i ∈ order → Ω .sget AT i = some (.agg (dV Ψ (m i)))) (hos : order.length < 100000) (hnd : order.Nodup) (off len n : Nat) (al : Int) {k : Nat}
  (hfc : off + len ≤ order.length) (hn : n < len) (hm : ∀ i, Vn k (m i)) (hk : 0 < k) (hk2 : k < 134217728) :
  Good P F.P_bvh_builder_part [.ptr 0 0, .ref 2 1 off len, .d (.i .i64 (Ω .ci n)), .d (.i .i64 al)] [.var (bcell Ψ (.own 1 22) (.own 2 1) (.own 3 9) TD), .row true T.api_Node 22 ND, .row true T.int 1 (oD order), .row true T.api_Vec 9 AT]
   (.tup []) [.var (bcell Ψ (.own 1 22) (.own 2 1) (.own 3 9) TD), .row true T.api_Node 22 ND, .row true T.int 1 (oD (order.take off ++ partS (aheadS m al) len ((order.drop off).take len) n ++ order.drop (off + len))), .row true T.api_Vec 9 AT] := by
 refine G.P_bvh_builder_part (hb := of_decide_eq_true rfl) fun C C2 hC hC2 => ?_
 obtain ⟨R, hR⟩ : ∃ R, R = order.take off ++ partS (aheadS m al) len ((order.drop off).take len) n ++ order.drop (off + len) := ⟨_, rfl⟩
 rw [← hR]
 obtain ⟨lt, hlt⟩ : ∃ lt, lt = aheadS m al := ⟨_, rfl⟩
 have hirr : ∀ p, lt p p = false := fun p => by rw [hlt]; unfold aheadS; simp
 have gah : ∀ (O : List D) (i p : Nat), i ∈ order → p ∈ order → Good P F.P_bvh_builder_ahead [.ptr 0 0, .d (.i .i64 (Ω .ci i)), .d (.i .i64 (Ω .ci p)), .d (.i .i64 al)] [.var (bcell Ψ (.own 1 22) (.own 2 1) (.own 3 9) TD), .row true T.api_Node 22 ND, .row true T.int 1 O, .row true T.api_Vec 9 AT]
   (.d (.b (lt i p))) [.var (bcell Ψ (.own 1 22) (.own 2 1) (.own 3 9) TD), .row true T.api_Node 22 ND, .row true T.int 1 O, .row true T.api_Vec 9 AT] := fun O i p hi hp => by
  rw [hlt]; exact ahead_good m i p al (hA i hi) (hA p hp) hm (by omega)
 rw [← hlt] at hR
 clear hlt
 have hoF := oD_ok
 generalize oD = O at *
 refine rq ?_
 refine LoopG.intro (σ := PS) [0, 1, 2, 3] [0, 1, 2, 3]
  (fun x => [.ptr 0 0, .ref 2 1 x.off x.len, .d (.i .i64 (Ω .ci x.n)), .d (.i .i64 al)])
  (fun x => [.var (bcell Ψ (.own 1 22) (.own 2 1) (.own 3 9) TD), .row true T.api_Node 22 ND, .row true T.int 1 (O x.A), .row true T.api_Vec 9 AT])
  (fun x => x.off + x.len ≤ x.A.length ∧ x.A.length = order.length ∧ x.n < x.len ∧ x.A.Nodup ∧ (∀ i, i ∈ x.A → i ∈ order) ∧ ∃ f, x.len ≤ f ∧ x.A.take x.off ++ partS lt f ((x.A.drop x.off).take x.len) x.n ++ x.A.drop (x.off + x.len) = R)
  (fun x => x.len) ⟨off, len, n, order⟩ [0, 1, 2, 3] ⟨hfc, rfl, hn, hnd, fun _ h => h, len, Nat.le_refl _, hR.symm⟩ ⟨rfl, rfl, rfl⟩ ?_
 rintro ⟨off, len, n, A⟩ ⟨hfc, hAl, hn, hnd, hAo, f, hf, hR⟩
 simp only at hfc hAl hn hnd hAo hf hR
 have hsl : ((A.drop off).take len).length = len := by rw [List.length_take, List.length_drop]; omega
 rcases Nat.lt_or_ge 1 len with h1 | h1
 rotate_left
 ·-- the end
  rw [partS_small (by omega)] at hR
  have e : A.take off ++ (A.drop off).take len ++ A.drop (off + len) = A := by
   rw [List.append_assoc, ← List.drop_drop, List.take_append_drop, List.take_append_drop]
  rw [e] at hR
  subst hR
  have hq : Ω .lt 1 (Ω .ci len) = false := by simp only [wz]; omega
  refine rq ?_
  exact ⟨[], rfl, rfl, rfl⟩
 have hq : Ω .lt 1 (Ω .ci len) = true := by simp only [wz]; omega
 obtain ⟨p, hp⟩ : ∃ p, A[off + len / 2]? = some p := ⟨_, List.getElem?_eq_getElem (by omega)⟩
 have hp' : ((A.drop off).take len)[((A.drop off).take len).length / 2]? = some p := by
  rw [hsl, List.getElem?_take, if_pos (by omega), List.getElem?_drop]; exact hp
 have hpA : p ∈ (A.drop off).take len := List.mem_of_getElem? hp'
 have hpo := hAo p (List.mem_of_getElem? hp)
 have hseg : ((A.drop off).take len).Nodup := (hnd.sublist (List.drop_sublist _ _)).sublist (List.take_sublist _ _)
 have hsp := split_len (lt := lt) hseg hpA (hirr p)
 rw [hsl] at hsp
 have hspp := split_perm (lt := lt) hseg hpA (hirr p)
 have hel : ∀ j, j < len → ∃ i, A[off + j]? = some i ∧ ((A.drop off).take len)[j]? = some i ∧ i ∈ order ∧ Ω .sget (O A) (Ω .nadd off j) = some (.i .i64 (Ω .ci i)) := fun j hj => by
  obtain ⟨i, hi⟩ : ∃ i, A[off + j]? = some i := ⟨_, List.getElem?_eq_getElem (by omega)⟩
  exact ⟨i, hi, by rw [List.getElem?_take, if_pos hj, List.getElem?_drop]; exact hi, hAo i (List.mem_of_getElem? hi), hoF.get _ _ _ hi⟩
 have hz : ∀ l : List Nat, lowS lt p (l.take 0) = [] ∧ highS lt p (l.take 0) = [] := fun l => ⟨rfl, rfl⟩
 have hst : ∀ j i, ((A.drop off).take len)[j]? = some i → lowS lt p (((A.drop off).take len).take (j + 1)) = lowS lt p (((A.drop off).take len).take j) ++ (if lt i p then [i] else []) ∧
   highS lt p (((A.drop off).take len).take (j + 1)) = highS lt p (((A.drop off).take len).take j) ++ (if !lt i p && decide (i ≠ p) then [i] else []) := fun j i hi => by
  rw [take_succ_of hi]
  unfold lowS highS
  rw [List.filter_append, List.filter_append]
  refine ⟨?_, ?_⟩
  ·congr 1; by_cases c : lt i p = true <;> simp [c]
  ·congr 1; by_cases c : (!lt i p && decide (i ≠ p)) = true
   ·rw [if_pos c, List.filter_cons_of_pos (by exact c), List.filter_nil]
   ·rw [if_neg c, List.filter_cons_of_neg (by exact c), List.filter_nil]
 have hend : ((A.drop off).take len).take len = (A.drop off).take len := List.take_of_length_le (by omega)
 have hle : ∀ j, (lowS lt p (((A.drop off).take len).take j)).length ≤ len ∧ (highS lt p (((A.drop off).take len).take j)).length ≤ len := fun j => by
  have a1 : (lowS lt p (((A.drop off).take len).take j)).length ≤ (((A.drop off).take len).take j).length := List.length_filter_le ..
  have a2 : (highS lt p (((A.drop off).take len).take j)).length ≤ (((A.drop off).take len).take j).length := List.length_filter_le ..
  rw [List.length_take, hsl] at a1 a2
  omega
 obtain ⟨LO, hLO⟩ : ∃ LO : Nat → List Nat, LO = fun j => lowS lt p (((A.drop off).take len).take j) := ⟨_, rfl⟩
 obtain ⟨HI, hHI⟩ : ∃ HI : Nat → List Nat, HI = fun j => highS lt p (((A.drop off).take len).take j) := ⟨_, rfl⟩
 have eLO : ∀ j, lowS lt p (((A.drop off).take len).take j) = LO j := fun j => by rw [hLO]
 have eHI : ∀ j, highS lt p (((A.drop off).take len).take j) = HI j := fun j => by rw [hHI]
 simp only [eLO, eHI] at hst hle
 have z1 : LO 0 = [] := by rw [hLO]; rfl
 have z2 : HI 0 = [] := by rw [hHI]; rfl
 have w1 : LO len = lowS lt p ((A.drop off).take len) := by rw [← eLO, hend]
 have w2 : HI len = highS lt p ((A.drop off).take len) := by rw [← eHI, hend]
 rw [← w1, ← w2] at hsp hspp
 obtain ⟨f, rfl⟩ : ∃ g, f = g + 1 := ⟨f - 1, by omega⟩
 rw [partS_step (by omega) hp', ← w1, ← w2] at hR
 clear eLO eHI hLO hHI w1 w2 hz hend
 have hdiv : Ω .wrap .i64 ((Ω .ci len).tdiv 2) = Ω .ci (len / 2) := by
  have e : (Ω .ci len).tdiv 2 = Ω .ci (len / 2) := (Int.ofNat_tdiv len 2).symm
  rw [e]
  exact wrap_ci (by omega)
 have hpg : Ω .sget (O A) (Ω .nadd off (len / 2)) = some (.i .i64 (Ω .ci p)) := hoF.get _ _ _ hp
 refine rq ?_
 rw [hdiv]
 refine rq ?_
 refine LoopG.introB (σ := Nat) [.slot 9 900001 T.int 1, .slot 10 900002 T.int 1] [0, 1, 2, 3, 8, 9, 10, 22, 23, 24] [0, 1, 2, 3, 1050, 1051]
  (fun j => [.ptr 0 0, .ref 2 1 off len, .d (.i .i64 (Ω .ci n)), .d (.i .i64 al), .d (.i .i64 (Ω .ci p)), .own 1050 1, .own 1051 1, .ref 2 1 off len, .d (.i .i64 (Ω .ci len)), .d (.i .i64 (Ω .ci j))])
  (fun j => [.var (bcell Ψ (.own 1 22) (.own 2 1) (.own 3 9) TD), .row true T.api_Node 22 ND, .row true T.int 1 (O A), .row true T.api_Vec 9 AT, .row true T.int 1 (O (LO j)), .row true T.int 1 (O (HI j))])
  (fun j => j ≤ len)
  (fun j => len - j) 0 [0, 1, 2, 3, 900001, 900002] (Nat.zero_le _) ⟨rfl, rfl, (by rw [z1, z2, hoF.nil]; rfl)⟩ ?_
 intro j hj
 rcases Nat.lt_or_ge j len with hlt | hge
 ·obtain ⟨i, hi, hi', hio, hg⟩ := hel j hlt
  have hq2 : Ω .lt (Ω .ci j) (Ω .ci len) = true := by simp only [wz]; omega
  have ga := gah (O A) i p hio hpo
  obtain ⟨s1, s2⟩ := hst j i hi'
  have hl := hle j
  have k1 := hoF.len (LO j)
  have k2 := hoF.len (HI j)
  by_cases c1 : lt i p = true
  ·rw [c1] at ga s1 s2
   rw [if_pos rfl] at s1
   have t1 := hoF.cat (LO j) i
   rw [← s1] at t1
   rw [if_neg (by simp), List.append_nil] at s2
   refine rq ?_
   refine ⟨j + 1, [0, 1, 2, 3, 1703, 1051], hlt, by omega, rfl, ?_, ?_⟩
   ·refine Eq.trans (b := [.ptr 0 0, .ref 2 1 off len, .d (.i .i64 (Ω .ci n)), .d (.i .i64 al), .d (.i .i64 (Ω .ci p)), .own 1050 1, .own 1051 1, .ref 2 1 off len, .d (.i .i64 (Ω .ci len)), .d (.i .i64 _)]) rfl ?_
    rw [wrap_succ (by omega)]
   ·rw [← t1, s2]
    rfl
  ·have c1' : lt i p = false := by simpa using c1
   rw [c1'] at ga s1 s2
   rw [if_neg (by decide), List.append_nil] at s1
   by_cases c2 : i = p
   ·subst c2
    rw [if_neg (by simp), List.append_nil] at s2
    have q3 : Ω .ne (Ω .ci i) (Ω .ci i) = false := ne_false'.2 rfl
    refine rq ?_
    refine ⟨j + 1, [0, 1, 2, 3, 1050, 1051], hlt, by omega, rfl, ?_, ?_⟩
    ·refine Eq.trans (b := [.ptr 0 0, .ref 2 1 off len, .d (.i .i64 (Ω .ci n)), .d (.i .i64 al), .d (.i .i64 (Ω .ci i)), .own 1050 1, .own 1051 1, .ref 2 1 off len, .d (.i .i64 (Ω .ci len)), .d (.i .i64 _)]) rfl ?_
     rw [wrap_succ (by omega)]
    ·rw [s1, s2]
     rfl
   ·rw [if_pos (by simp [c2])] at s2
    have t2 := hoF.cat (HI j) i
    rw [← s2] at t2
    have q3 : Ω .ne (Ω .ci i) (Ω .ci p) = true := ne_true'.2 (fun q => c2 (Int.ofNat.inj q))
    refine rq ?_
    refine ⟨j + 1, [0, 1, 2, 3, 1050, 1903], hlt, by omega, rfl, ?_, ?_⟩
    ·refine Eq.trans (b := [.ptr 0 0, .ref 2 1 off len, .d (.i .i64 (Ω .ci n)), .d (.i .i64 al), .d (.i .i64 (Ω .ci p)), .own 1050 1, .own 1051 1, .ref 2 1 off len, .d (.i .i64 (Ω .ci len)), .d (.i .i64 _)]) rfl ?_
     rw [wrap_succ (by omega)]
    ·rw [← t2, s1]
     rfl
 ·obtain rfl : j = len := by omega
  have hq2 : Ω .lt (Ω .ci j) (Ω .ci j) = false := by simp only [wz]; omega
  have hl := hle j
  generalize LO j = low at *
  generalize HI j = high at *
  have k1 := hoF.len low
  have k2 := hoF.len high
  have hw : Ω .wrap .i64 (Ω .ci low.length + 1) = Ω .ci (low.length + 1) := wrap_succ (by omega)
  have e1 := hoF.cpy A low off j hl.1
  obtain ⟨A1, hA1⟩ : ∃ A1, A1 = A.take off ++ low ++ A.drop (off + low.length) := ⟨_, rfl⟩
  obtain ⟨A2, hA2⟩ : ∃ A2, A2 = A1.set (off + low.length) p := ⟨_, rfl⟩
  obtain ⟨A3, hA3⟩ : ∃ A3, A3 = A.take off ++ (low ++ p :: high) ++ A.drop (off + j) := ⟨_, rfl⟩
  have l1 : A1.length = A.length := by rw [hA1]; simp only [List.length_append, List.length_take, List.length_drop]; omega
  have l2 : A2.length = A.length := by rw [hA2, List.length_set, l1]
  have e2 : Ω .sset (O A1) (Ω .nadd off low.length) (.i .i64 (Ω .ci p)) = O A2 := by rw [hoF.set, hA2]; rfl
  have e3 : Ω .scpy (O A2) (Ω .nadd off (low.length + 1)) (Ω .ssub (O high) 0 (Ω .nsub j (low.length + 1))) = O A3 := by
   rw [hoF.cpy _ _ _ _ (by simp only [wz]; omega), hA3]
   exact congrArg O (part_write hfc hsp hA1 hA2)
  rw [← hA1] at e1
  have o2 := hoF.len A1
  have o3 := hoF.len A2
  rw [l1] at o2
  rw [l2] at o3
  refine rq ?_
  rw [k1, hw, tn_ci, e1, e2, e3, k2, o2, o3]
  refine ⟨hoF.one low, (by simp only [w_leb, w_nadd, hoF.len, decide_eq_true_eq]; omega), ci_nonneg _, (by simp only [wz]; omega), (by simp only [wz]; omega), ci_nonneg _, (by simp only [wz]; omega),
   (by simp only [wz]; omega), (by simp only [wz]; omega), (fun h => nomatch h), hoF.one high, (by simp only [w_leb, w_nadd, w_nsub, decide_eq_true_eq]; omega), ?_⟩
  have A3l : A3.length = A.length := by rw [hA3]; simp only [List.length_append, List.length_cons, List.length_take, List.length_drop]; omega
  have A3p : A3.Perm A := by
   rw [hA3]
   have e : A.take off ++ (A.drop off).take j ++ A.drop (off + j) = A := by
    rw [List.append_assoc, ← List.drop_drop, List.take_append_drop, List.take_append_drop]
   exact ((hspp.append_left _).append_right _).trans (.of_eq e)
  have A3n := A3p.nodup_iff.2 hnd
  have A3o : ∀ i, i ∈ A3 → i ∈ order := fun i hi => hAo i (A3p.mem_iff.1 hi)
  have x0 : (A.take off).length = off := by rw [List.length_take]; omega
  rcases Nat.lt_trichotomy n low.length with c | c | c
  ·rw [if_pos c] at hR
   have q1 : Ω .lt (Ω .ci n) (Ω .ci low.length) = true := by simp only [wz]; omega
   have y1 : A3.take off = A.take off := by rw [hA3, List.append_assoc, List.take_left' x0]
   have y2 : (A3.drop off).take low.length = low := by rw [hA3, List.append_assoc, List.drop_left' x0, List.append_assoc, List.take_left' rfl]
   have y3 : A3.drop (off + low.length) = p :: high ++ A.drop (off + j) := by
    rw [← List.drop_drop, hA3, List.append_assoc, List.drop_left' x0, List.append_assoc, List.drop_left' rfl]
   refine rq ?_
   rw [k1]
   refine ⟨ci_nonneg _, (by simp only [wz]; omega), (by simp only [wz]; omega), (fun h => nomatch h), ⟨off, low.length, n, A3⟩, [0, 1, 2, 3], ⟨?_, ?_, c, A3n, A3o, f, ?_, ?_⟩, (by show low.length < j; omega), rfl, rfl, rfl⟩
   ·show off + low.length ≤ A3.length
    omega
   ·show A3.length = order.length
    omega
   ·show low.length ≤ f
    omega
   ·show A3.take off ++ partS lt f ((A3.drop off).take low.length) n ++ A3.drop (off + low.length) = R
    rw [y1, y2, y3, ← hR]
    simp only [List.append_assoc]
  ·rw [if_neg (by omega), if_pos c] at hR
   rw [← hA3] at hR
   subst hR
   have q1 : Ω .lt (Ω .ci n) (Ω .ci low.length) = false := by simp only [wz]; omega
   have q2 : Ω .eq (Ω .ci n) (Ω .ci (Ω .slen (O low))) = true := eq_true'.2 (by rw [k1, c])
   refine rq ?_
   exact ⟨[], rfl, rfl, rfl⟩
  ·rw [if_neg (by omega), if_neg (by omega)] at hR
   have q1 : Ω .lt (Ω .ci n) (Ω .ci low.length) = false := by simp only [wz]; omega
   have q2 : Ω .eq (Ω .ci n) (Ω .ci (Ω .slen (O low))) = false := eq_false'.2 (fun q => by rw [k1] at q; have := Int.ofNat.inj q; omega)
   have x1 : (A.take off ++ (low ++ [p])).length = off + (low.length + 1) := by simp only [List.length_append, x0, List.length_singleton]
   have hA3' : A3 = (A.take off ++ (low ++ [p])) ++ (high ++ A.drop (off + j)) := by rw [hA3]; simp
   have y1 : A3.take (off + (low.length + 1)) = A.take off ++ (low ++ [p]) := by rw [hA3', List.take_left' x1]
   have y2 : (A3.drop (off + (low.length + 1))).take high.length = high := by rw [hA3', List.drop_left' x1, List.take_left' rfl]
   have y3 : A3.drop (off + (low.length + 1) + high.length) = A.drop (off + j) := by
    rw [← List.drop_drop, hA3', List.drop_left' x1, List.drop_left' rfl]
   have hw2 : Ω .wrap .i64 (Ω .ci j - Ω .ci high.length) = Ω .ci (low.length + 1) := by
    rw [wrap_sub (by omega) (by omega), show j - high.length = low.length + 1 by omega]
   have hw3 : Ω .wrap .i64 (Ω .ci n - Ω .ci (low.length + 1)) = Ω .ci (n - (low.length + 1)) := wrap_sub (by omega) (by omega)
   have hns : Ω .nsub j (low.length + 1) = high.length := by simp only [wz]; omega
   refine rq ?_
   rw [k1, k2, hw, hw2, hw3, tn_ci, hns]
   refine ⟨ci_nonneg _, (by simp only [wz]; omega), (by simp only [wz]; omega), (by simp only [wz]; omega), (fun h => nomatch h), ⟨off + (low.length + 1), high.length, n - (low.length + 1), A3⟩, [0, 1, 2, 3], ⟨?_, ?_, ?_, A3n, A3o, f, ?_, ?_⟩, (by show high.length < j; omega), rfl, rfl, rfl⟩
   ·show off + (low.length + 1) + high.length ≤ A3.length
    omega
   ·show A3.length = order.length
    omega
   ·show n - (low.length + 1) < high.length
    omega
   ·show high.length ≤ f
    omega
   ·show A3.take (off + (low.length + 1)) ++ partS lt f ((A3.drop (off + (low.length + 1))).take high.length) (n - (low.length + 1)) ++ A3.drop (off + (low.length + 1) + high.length) = R
    rw [y1, y2, y3, ← hR]
    simp only [List.append_assoc, List.cons_append, List.nil_append]
end Go.K.S
end
section
namespace Go.K
open Go Go.K.S
structure BS where
 nodes : List NodeL
 order : List Nat
def joinT (tris : List TL) (l : List Nat) : BL := Ψ .cB (bjoins (l.map fun i => bxT (tlAt tris i)))
def nodeS (m : Nat → VL) (tris : List TL) : Nat → Nat → Nat → BS → BS
 | 0, _, _, s => s
 | g + 1, f, c, s =>
  if c ≤ 4 then ⟨s.nodes ++ [⟨joinT tris ((s.order.drop f).take c), 0, 0, Ω .ci f, Ω .ci c⟩], s.order⟩
  else
   let s3 := nodeS m tris g f (c / 2) ⟨s.nodes ++ [⟨joinT tris ((s.order.drop f).take c), 0, 0, 0, 0⟩],
    s.order.take f ++ partS (aheadS m (widS (bxM m ((s.order.drop f).take c)))) c ((s.order.drop f).take c) (c / 2) ++ s.order.drop (f + c)⟩
   let s4 := nodeS m tris g (f + c / 2) (c - c / 2) s3
   ⟨s4.nodes.set s.nodes.length ⟨joinT tris ((s.order.drop f).take c), Ω .ci (s.nodes.length + 1), Ω .ci s3.nodes.length, 0, 0⟩, s4.order⟩
def TR.inSeg (lo hi : Nat) : TR → Prop
 | .leaf _ _ f c => lo ≤ f ∧ f + c ≤ hi
 | .inner _ _ l r => l.inSeg lo hi ∧ r.inSeg lo hi
theorem TR.inSeg.mono {lo hi lo' hi' : Nat} (h1 : lo' ≤ lo) (h2 : hi ≤ hi') : ∀ {t : TR}, t.inSeg lo hi → t.inSeg lo' hi'
 | .leaf _ _ f c, h => ⟨Nat.le_trans h1 h.1, Nat.le_trans h.2 h2⟩
 | .inner _ _ l r, h => ⟨h.1.mono h1 h2, h.2.mono h1 h2⟩
theorem seg_eq {o o' : List Nat} {f c : Nat} (h : ∀ j, f ≤ j → j < f + c → o'[j]? = o[j]?) : (o'.drop f).take c = (o.drop f).take c := by
 refine List.ext_getElem? fun j => ?_
 rw [List.getElem?_take, List.getElem?_take]
 split
 ·rw [List.getElem?_drop, List.getElem?_drop]; exact h _ (by omega) (by omega)
 ·rfl
theorem TR.set_congr {o o' : List Nat} {lo hi : Nat} (h : ∀ j, lo ≤ j → j < hi → o'[j]? = o[j]?) : ∀ {t : TR}, t.inSeg lo hi → t.set o' = t.set o
 | .leaf _ _ f c, hs => seg_eq fun j a b => h j (Nat.le_trans hs.1 a) (Nat.lt_of_lt_of_le b hs.2)
 | .inner _ _ l r, hs => by simp only [TR.set]; rw [TR.set_congr h hs.1, TR.set_congr h hs.2]
theorem TR.held_congr {o o' : List Nat} {tris : List TL} {lo hi : Nat} (h : ∀ j, lo ≤ j → j < hi → o'[j]? = o[j]?) : ∀ {t : TR}, t.inSeg lo hi → t.held o tris → t.held o' tris
 | .leaf _ n f c, hs, hh => by
  simp only [TR.held] at hh ⊢
  rw [seg_eq (o := o) fun j a b => h j (Nat.le_trans hs.1 a) (Nat.lt_of_lt_of_le b hs.2)]
  exact hh
 | .inner _ n l r, hs, hh => by
  simp only [TR.held] at hh ⊢
  rw [TR.set_congr h hs.1, TR.set_congr h hs.2]
  exact ⟨hh.1, TR.held_congr h hs.1 hh.2.1, TR.held_congr h hs.2 hh.2.2⟩
theorem TR.fit_congr {nodes nodes' : List NodeL} {order order' : List Nat} (ho : order'.length = order.length) : ∀ {t : TR} {e : Nat}, t.fit nodes order e → (∀ i, t.ix ≤ i → i < e → nodes'[i]? = nodes[i]?) → t.fit nodes' order' e
 | .leaf i n f c, e, h, hn => by
  obtain ⟨h1, h2, h3, h4, h5, h6⟩ := h
  refine ⟨(hn i (Nat.le_refl _) (by omega)).trans h1, h2, h3, h4, by omega, h6⟩
 | .inner i n l r, e, h, hn => by
  obtain ⟨h1, h2, h3, h4, h5, h6, h7⟩ := h
  have a1 := TR.fit_lt h6
  have a2 := TR.fit_lt h7
  simp only [TR.ix] at hn
  exact ⟨(hn i (Nat.le_refl _) (by omega)).trans h1, h2, h3, h4, h5, TR.fit_congr ho h6 fun j b1 b2 => hn j (by omega) (by omega), TR.fit_congr ho h7 fun j b1 b2 => hn j (by omega) (by omega)⟩
theorem holds_joinr {b c : B3} {p : V3} (h : holds c p) : holds (bjoin b c) p := by
 have key : ∀ {x lo hi lo' hi' : Rat}, btw x lo hi → btw x (rmin lo' lo) (rmax hi' hi) := fun {x lo hi lo' hi'} h => by
  unfold btw rmin rmax at *
  split <;> split <;> grind
 exact ⟨key h.1, key h.2.1, key h.2.2⟩
theorem holds_joins {l : List BL} {b : BL} {p : V3} (hb : b ∈ l) (h : holds (bv b) p) : holds (bjoins l) p := by
 have key : ∀ (r : List BL) (s : B3), (holds s p ∨ b ∈ r) → holds ((r.map bv).foldl bjoin s) p := fun r => by
  induction r with
  | nil => intro s hs; exact hs.elim id fun q => absurd q List.not_mem_nil
  | cons c r ih =>
   intro s hs
   refine ih _ ?_
   rcases hs with hs | hs
   ·exact .inl (holds_join hs)
   ·rcases List.mem_cons.1 hs with rfl | hs
    ·exact .inl (holds_joinr h)
    ·exact .inr hs
 cases l with
 | nil => exact absurd hb List.not_mem_nil
 | cons c r =>
  refine key r (bv c) ?_
  rcases List.mem_cons.1 hb with rfl | hb
  ·exact .inl h
  ·exact .inr hb
theorem join_held {tris : List TL} (l : List Nat) : boxHolds tris (bv (joinT tris l)) l := fun j hj t ht => by
 have e : tlAt tris j = t := by unfold tlAt; rw [ht]; rfl
 have hm : bxT t ∈ l.map fun i => bxT (tlAt tris i) := List.mem_map.2 ⟨j, hj, by rw [e]⟩
 have hb : bv (bxT t) = bjoins ([t.a, t.b, t.c].map pbox) := bv_cB _
 have hl := leaf_holds t
 rw [← hb] at hl
 show holds (bv (Ψ .cB _)) _ ∧ holds (bv (Ψ .cB _)) _ ∧ holds (bv (Ψ .cB _)) _
 rw [bv_cB]
 exact ⟨holds_joins hm hl.1, holds_joins hm hl.2.1, holds_joins hm hl.2.2⟩
structure NodeOk (tris : List TL) (f c : Nat) (s s' : BS) (t : TR) : Prop where
 ix : t.ix = s.nodes.length
 seg : t.inSeg f (f + c)
 fit : t.fit s'.nodes s'.order s'.nodes.length
 held : t.held s'.order tris
 set : ∀ j, j ∈ t.set s'.order ↔ j ∈ (s.order.drop f).take c
 perm : ((s'.order.drop f).take c).Perm ((s.order.drop f).take c)
 len : s'.order.length = s.order.length
 out : ∀ j, j < f ∨ f + c ≤ j → s'.order[j]? = s.order[j]?
 old : ∀ i, i < s.nodes.length → s'.nodes[i]? = s.nodes[i]?
 more : s'.nodes.length + 1 ≤ s.nodes.length + 2 * c
theorem NodeOk.lt {tris : List TL} {f c : Nat} {s s' : BS} {t : TR} (h : NodeOk tris f c s s' t) : s.nodes.length < s'.nodes.length := by
 have := TR.fit_lt h.fit
 rw [h.ix] at this
 exact this.1
theorem nodup_of_parts {o o' : List Nat} {f c : Nat} (hl : o'.length = o.length) (hp : ((o'.drop f).take c).Perm ((o.drop f).take c)) (ho : ∀ j, j < f ∨ f + c ≤ j → o'[j]? = o[j]?) : o'.Perm o := by
 have e : ∀ l : List Nat, l = l.take f ++ ((l.drop f).take c ++ l.drop (f + c)) := fun l => by
  rw [← List.drop_drop, List.take_append_drop, List.take_append_drop]
 have h1 : o'.take f = o.take f := by
  refine List.ext_getElem? fun j => ?_
  rw [List.getElem?_take, List.getElem?_take]
  split
  ·exact ho j (.inl (by assumption))
  ·rfl
 have h2 : o'.drop (f + c) = o.drop (f + c) := by
  refine List.ext_getElem? fun j => ?_
  rw [List.getElem?_drop, List.getElem?_drop]
  exact ho _ (.inr (by omega))
 rw [e o', e o, h1, h2]
 exact (hp.append_right _).append_left _
theorem nodeS_ok {m : Nat → VL} {tris : List TL} : ∀ (g f c : Nat) (s : BS), c ≤ g → 0 < c → f + c ≤ s.order.length → s.order.Nodup → ∃ t, NodeOk tris f c s (nodeS m tris g f c s) t
 | 0, f, c, s, hg, hc, _, _ => by omega
 | g + 1, f, c, s, hg, hc, hfc, hnd => by
  by_cases h4 : c ≤ 4
  ·have e : nodeS m tris (g + 1) f c s = ⟨s.nodes ++ [⟨joinT tris ((s.order.drop f).take c), 0, 0, Ω .ci f, Ω .ci c⟩], s.order⟩ := by rw [nodeS, if_pos h4]
   rw [e]
   refine ⟨.leaf s.nodes.length ⟨joinT tris ((s.order.drop f).take c), 0, 0, Ω .ci f, Ω .ci c⟩ f c, rfl, ⟨Nat.le_refl _, Nat.le_refl _⟩, ?_, join_held _, fun j => Iff.rfl, .refl _, rfl, fun _ _ => rfl, fun i hi => ?_, ?_⟩
   ·refine ⟨?_, rfl, rfl, hc, hfc, ?_⟩
    ·simp
    ·simp
   ·show (s.nodes ++ _)[i]? = _
    rw [List.getElem?_append_left hi]
   ·simp only [List.length_append, List.length_singleton]; omega
  ·have e : nodeS m tris (g + 1) f c s = (
     let s3 := nodeS m tris g f (c / 2) ⟨s.nodes ++ [⟨joinT tris ((s.order.drop f).take c), 0, 0, 0, 0⟩],
      s.order.take f ++ partS (aheadS m (widS (bxM m ((s.order.drop f).take c)))) c ((s.order.drop f).take c) (c / 2) ++ s.order.drop (f + c)⟩
     let s4 := nodeS m tris g (f + c / 2) (c - c / 2) s3
     ⟨s4.nodes.set s.nodes.length ⟨joinT tris ((s.order.drop f).take c), Ω .ci (s.nodes.length + 1), Ω .ci s3.nodes.length, 0, 0⟩, s4.order⟩) := by rw [nodeS, if_neg h4]
   rw [e]
   clear e
   simp only
   have hsl : ((s.order.drop f).take c).length = c := by rw [List.length_take, List.length_drop]; omega
   have hseg : ((s.order.drop f).take c).Nodup := (hnd.sublist (List.drop_sublist _ _)).sublist (List.take_sublist _ _)
   have hpp := partS_perm (lt := aheadS m (widS (bxM m ((s.order.drop f).take c)))) (fun p => by unfold aheadS; simp) c ((s.order.drop f).take c) (c / 2) hseg
   generalize partS (aheadS m (widS (bxM m ((s.order.drop f).take c)))) c ((s.order.drop f).take c) (c / 2) = pp at hpp ⊢
   have hpl : pp.length = c := hpp.length_eq.trans hsl
   obtain ⟨s2, hs2⟩ : ∃ s2 : BS, s2 = ⟨s.nodes ++ [⟨joinT tris ((s.order.drop f).take c), 0, 0, 0, 0⟩], s.order.take f ++ pp ++ s.order.drop (f + c)⟩ := ⟨_, rfl⟩
   rw [← hs2]
   have l0 : (s.order.take f).length = f := by rw [List.length_take]; omega
   have o2l : s2.order.length = s.order.length := by
    rw [hs2]; simp only [List.length_append, l0, hpl, List.length_drop]; omega
   have o2seg : (s2.order.drop f).take c = pp := by
    rw [hs2]
    show ((s.order.take f ++ pp ++ s.order.drop (f + c)).drop f).take c = pp
    rw [List.append_assoc, List.drop_left' l0, List.take_left' hpl]
   have o2out : ∀ j, j < f ∨ f + c ≤ j → s2.order[j]? = s.order[j]? := fun j hj => by
    rw [hs2]
    show (s.order.take f ++ pp ++ s.order.drop (f + c))[j]? = _
    rcases hj with hj | hj
    ·rw [List.append_assoc, List.getElem?_append_left (by omega), List.getElem?_take, if_pos hj]
    ·rw [List.getElem?_append_right (by rw [List.length_append]; omega), List.getElem?_drop, List.length_append, l0, hpl]
     congr 1; omega
   have o2p : s2.order.Perm s.order := nodup_of_parts o2l (by rw [o2seg]; exact hpp) o2out
   have n2l : s2.nodes.length = s.nodes.length + 1 := by rw [hs2]; simp
   obtain ⟨t3, h3⟩ := nodeS_ok (m := m) (tris := tris) g f (c / 2) s2 (by omega) (by omega) (by omega) (o2p.nodup_iff.2 hnd)
   generalize nodeS m tris g f (c / 2) s2 = s3 at h3 ⊢
   have o3p : s3.order.Perm s2.order := nodup_of_parts h3.len h3.perm h3.out
   have l3 := h3.len
   obtain ⟨t4, h4'⟩ := nodeS_ok (m := m) (tris := tris) g (f + c / 2) (c - c / 2) s3 (by omega) (by omega) (by omega) ((o3p.trans o2p).nodup_iff.2 hnd)
   generalize nodeS m tris g (f + c / 2) (c - c / 2) s3 = s4 at h4' ⊢
   have q3 := h3.lt
   have q4 := h4'.lt
   have m3 := h3.more
   have m4 := h4'.more
   have i3 := h3.ix
   have i4 := h4'.ix
   have l4 := h4'.len
   have hset : ∀ i, i ≠ s.nodes.length → (s4.nodes.set s.nodes.length ⟨joinT tris ((s.order.drop f).take c), Ω .ci (s.nodes.length + 1), Ω .ci s3.nodes.length, 0, 0⟩)[i]? = s4.nodes[i]? := fun i hi => List.getElem?_set_ne (Ne.symm hi)
   have halves : ∀ o : List Nat, (o.drop f).take c = (o.drop f).take (c / 2) ++ (o.drop (f + c / 2)).take (c - c / 2) := fun o => by
    rw [← List.drop_drop, ← List.take_add]; congr 1; omega
   have e43 : (s4.order.drop f).take (c / 2) = (s3.order.drop f).take (c / 2) := seg_eq fun j a b => h4'.out j (.inl (by omega))
   have e32 : (s3.order.drop (f + c / 2)).take (c - c / 2) = (s2.order.drop (f + c / 2)).take (c - c / 2) := seg_eq fun j a b => h3.out j (.inr (by omega))
   have hperm : ((s4.order.drop f).take c).Perm ((s.order.drop f).take c) := by
    rw [halves s4.order, e43]
    refine ((h3.perm.append h4'.perm).trans ?_).trans hpp
    rw [e32, ← halves, o2seg]
   have s3set : t3.set s4.order = t3.set s3.order := TR.set_congr (fun j a b => h4'.out j (.inl (by omega))) h3.seg
   have hall : ∀ j, j ∈ t3.set s4.order ++ t4.set s4.order ↔ j ∈ (s.order.drop f).take c := fun j => by
    rw [List.mem_append, s3set, h3.set, h4'.set, ← hpp.mem_iff, ← o2seg, halves s2.order, List.mem_append, e32]
   refine ⟨.inner s.nodes.length ⟨joinT tris ((s.order.drop f).take c), Ω .ci (s.nodes.length + 1), Ω .ci s3.nodes.length, 0, 0⟩ t3 t4, rfl,
    ⟨h3.seg.mono (Nat.le_refl _) (by omega), h4'.seg.mono (by omega) (by omega)⟩, ?_, ⟨?_, ?_, h4'.held⟩, hall, hperm, ?_, ?_, ?_, ?_⟩
   ·refine ⟨?_, rfl, ?_, ?_, ?_, ?_, ?_⟩
    ·show (s4.nodes.set _ _)[s.nodes.length]? = _
     rw [List.getElem?_set_self (by omega)]
    ·show Ω .ci (s.nodes.length + 1) = Ω .ci t3.ix
     rw [i3, n2l]
    ·show Ω .ci s3.nodes.length = Ω .ci t4.ix
     rw [i4]
    ·rw [i3, n2l]
    ·refine TR.fit_congr (nodes := s3.nodes) (order := s3.order) l4 (by rw [i4]; exact h3.fit) fun i a b => ?_
     rw [hset i (by omega)]
     exact h4'.old i (by omega)
    ·rw [List.length_set]
     exact TR.fit_congr (nodes := s4.nodes) (order := s4.order) rfl h4'.fit fun i a b => hset i (by omega)
   ·intro j hj
    exact join_held _ j ((hall j).1 hj)
   ·exact TR.held_congr (fun j a b => h4'.out j (.inl (by omega))) h3.seg h3.held
   ·show s4.order.length = s.order.length
    omega
   ·intro j hj
    show s4.order[j]? = s.order[j]?
    rw [h4'.out j (by omega), h3.out j (by omega), o2out j hj]
   ·intro i hi
    show (s4.nodes.set _ _)[i]? = _
    rw [hset i (by omega), h4'.old i (by omega), h3.old i (by omega), hs2]
    exact List.getElem?_append_left hi
   ·show (s4.nodes.set _ _).length + 1 ≤ _
    rw [List.length_set]
    omega
end Go.K
end
section
namespace Go.K
open Go
structure NF (N : List NodeL → List D) : Prop where
 get : ∀ (l : List NodeL) (i : Nat) n, l[i]? = some n → Ω .sget (N l) i = some (.agg (dNode Ψ n))
 len : ∀ l, Ω .slen (N l) = l.length
 cat : ∀ l n, Ω .scat (N l) [.agg (dNode Ψ n)] = N (l ++ [n])
 set : ∀ l i n, Ω .sset (N l) i (.agg (dNode Ψ n)) = N (l.set i n)
theorem slen_sset (xs : List D) (k : Nat) (y : D) : Ω .slen (Ω .sset xs k y) = Ω .slen xs := by simp [w_slen, w_sset]
theorem set_last {α : Type} (l : List α) (a b : α) : (l ++ [a]).set l.length b = l ++ [b] := by
 rw [List.set_append_right _ _ (Nat.le_refl _), Nat.sub_self]; rfl
theorem nodesD_ok : NF nodesD where
 get := fun l i n h => by simp [nodesD, w_sget, h]
 len := nodesD_len
 cat := fun l n => (nodesD_snoc l n).symm
 set := fun l i n => by simp [nodesD, w_sset, List.map_set]
end Go.K
namespace Go.K.S
open Go Go.K
theorem bxT_n {k : Nat} {t : TL} (ht : Tn k t) (hk : 0 < k) : Bn k (bxT t) := Bn_cB (Bq_joins hk _ (fun b hb => by
 obtain ⟨v, hv, rfl⟩ := List.mem_map.1 hb
 simp only [List.mem_cons, List.not_mem_nil, or_false] at hv
 rcases hv with rfl | rfl | rfl
 ·exact ⟨ht.a, ht.a⟩
 ·exact ⟨ht.b, ht.b⟩
 ·exact ⟨ht.c, ht.c⟩))
theorem bnode_good {m : Nat → VL} {tris : List TL} {TD AT : List D} {k : Nat} (hT : ∀ (i : Nat) t, tris[i]? = some t → Ω .sget TD i = some (.agg (dT Ψ t))) (hA : ∀ i, i < tris.length → Ω .sget AT i = some (.agg (dV Ψ (m i))))
  (ht : ∀ t, t ∈ tris → Tn k t) (hm : ∀ i, Vn k (m i)) (hk : 0 < k) (hk2 : k < 134217728) : ∀ (g f c : Nat) (s : BS), c ≤ g → 0 < c → f + c ≤ s.order.length → s.order.Nodup → (∀ i, i ∈ s.order → i < tris.length) → s.order.length < 100000 → s.nodes.length + 2 * c < 400000 →
  Good P F.P_bvh_builder_node [.ptr 0 0, .d (.i .i64 (Ω .ci f)), .d (.i .i64 (Ω .ci c))] [.var (bcell Ψ (.own 1 22) (.own 2 1) (.own 3 9) TD), .row true T.api_Node 22 (nodesD s.nodes), .row true T.int 1 (oD s.order), .row true T.api_Vec 9 AT]
   (.d (.i .i64 (Ω .ci s.nodes.length))) [.var (bcell Ψ (.own 4 22) (.own 2 1) (.own 3 9) TD), .dead, .row true T.int 1 (oD (nodeS m tris g f c s).order), .row true T.api_Vec 9 AT, .row true T.api_Node 22 (nodesD (nodeS m tris g f c s).nodes)]
 | 0, f, c, s, h1, h2, _, _, _, _, _ => by omega
 | g + 1, f, c, ⟨nodes, order⟩, hg, hc, hfc, hnd, hov, hos, hns => by
  refine G.P_bvh_builder_node (hb := of_decide_eq_true rfl) fun C C2 hC hC2 => ?_
  simp only at hfc hnd hov hos hns
  obtain ⟨s', hs'⟩ : ∃ s', s' = nodeS m tris (g + 1) f c ⟨nodes, order⟩ := ⟨_, rfl⟩
  rw [← hs']
  rw [nodeS] at hs'
  simp only at hs'
  have hbx : ∀ b, b ∈ ((order.drop f).take c).map (fun i => bxT (tlAt tris i)) → Bn k b := fun b hb => by
   obtain ⟨i, hi, rfl⟩ := List.mem_map.1 hb
   have hil := hov i (List.mem_of_mem_drop (List.mem_of_mem_take hi))
   have e : tlAt tris i = tris[i] := by unfold tlAt; rw [List.getElem?_eq_getElem hil]; rfl
   rw [e]
   exact bxT_n (ht _ (List.getElem_mem hil)) hk
  have hJ : Bn k (joinT tris ((order.drop f).take c)) := Bn_cB (Bq_joins hk _ hbx)
  have gj := join_good (((order.drop f).take c).map fun i => bxT (tlAt tris i)) (k := k) hbx (by rw [List.length_map, List.length_take, List.length_drop]; omega) hk (by omega)
  have eJ : Ψ .cB (bjoins (((order.drop f).take c).map fun i => bxT (tlAt tris i))) = joinT tris ((order.drop f).take c) := rfl
  rw [eJ] at gj
  generalize hJJ : joinT tris ((order.drop f).take c) = J at *
  have hst : ∀ j i, j < c → order[f + j]? = some i → ((order.drop f).take (j + 1)).map (fun i => bxT (tlAt tris i)) = ((order.drop f).take j).map (fun i => bxT (tlAt tris i)) ++ [bxT (tlAt tris i)] := fun j i hj hi => by
   rw [take_succ_of (l := order.drop f) (i := j) (x := i) (by rw [List.getElem?_drop]; exact hi)]; simp
  have hz : ((order.drop f).take 0).map (fun i => bxT (tlAt tris i)) = [] := rfl
  have hlen : ∀ j, j ≤ c → (((order.drop f).take j).map (fun i => bxT (tlAt tris i))).length = j := fun j hj => by simp; omega
  obtain ⟨S, hS⟩ : ∃ S : Nat → List BL, S = fun j => ((order.drop f).take j).map (fun i => bxT (tlAt tris i)) := ⟨_, rfl⟩
  have hSe : ∀ j, ((order.drop f).take j).map (fun i => bxT (tlAt tris i)) = S j := fun j => by rw [hS]
  simp only [hSe] at hst hz hlen gj
  clear hSe hS
  have hoF := oD_ok
  have hnF := nodesD_ok
  have hel : ∀ j, j < c → ∃ i, order[f + j]? = some i ∧ Ω .sget (oD order) (Ω .nadd f j) = some (.i .i64 (Ω .ci i)) ∧ Ω .sget TD i = some (.agg (dT Ψ (tlAt tris i))) ∧ Good P F.bvh_around [.d (.agg (dT Ψ (tlAt tris i)))] [] (.d (.agg (dB Ψ (bxT (tlAt tris i))))) [] := fun j hj => by
   obtain ⟨i, hi⟩ : ∃ i, order[f + j]? = some i := ⟨_, List.getElem?_eq_getElem (by omega)⟩
   have hil := hov i (List.mem_of_getElem? hi)
   obtain ⟨t, htr⟩ : ∃ t, tris[i]? = some t := ⟨_, List.getElem?_eq_getElem hil⟩
   have e : tlAt tris i = t := by unfold tlAt; rw [htr]; rfl
   exact ⟨i, hi, hoF.get _ _ _ hi, (by rw [e]; exact hT _ _ htr), (by rw [e]; exact taround_good t (ht t (List.mem_of_getElem? htr)) hk (by omega))⟩
  have hw : Ω .wrap .i64 (Ω .ci f + Ω .ci c) = Ω .ci (f + c) := by rw [wrap_add (by omega)]
  have hol := hoF.len order
  have hnl := hnF.len nodes
  have e1 : Ω .nsub (f + c) f = c := by simp only [wz]; omega
  have hrec : 4 < c → ∃ (al : Int) (s2 s3 s4 : BS), s' = ⟨s4.nodes.set nodes.length ⟨J, Ω .ci (nodes.length + 1), Ω .ci s3.nodes.length, 0, 0⟩, s4.order⟩ ∧
    Good P F.P_bvh_builder_widest [.ptr 0 0, .d (.i .i64 (Ω .ci f)), .d (.i .i64 (Ω .ci c))] [.var (bcell Ψ (.own 1 22) (.own 2 1) (.own 3 9) TD), .row true T.api_Node 22 (Ω .scat (nodesD nodes) [.agg (dNode Ψ ⟨J, 0, 0, 0, 0⟩)]), .row true T.int 1 (oD order), .row true T.api_Vec 9 AT]
     (.d (.i .i64 al)) [.var (bcell Ψ (.own 1 22) (.own 2 1) (.own 3 9) TD), .row true T.api_Node 22 (Ω .scat (nodesD nodes) [.agg (dNode Ψ ⟨J, 0, 0, 0, 0⟩)]), .row true T.int 1 (oD order), .row true T.api_Vec 9 AT] ∧
    Good P F.P_bvh_builder_part [.ptr 0 0, .ref 2 1 f c, .d (.i .i64 (Ω .ci (c / 2))), .d (.i .i64 al)] [.var (bcell Ψ (.own 1 22) (.own 2 1) (.own 3 9) TD), .row true T.api_Node 22 (Ω .scat (nodesD nodes) [.agg (dNode Ψ ⟨J, 0, 0, 0, 0⟩)]), .row true T.int 1 (oD order), .row true T.api_Vec 9 AT]
     (.tup []) [.var (bcell Ψ (.own 1 22) (.own 2 1) (.own 3 9) TD), .row true T.api_Node 22 (Ω .scat (nodesD nodes) [.agg (dNode Ψ ⟨J, 0, 0, 0, 0⟩)]), .row true T.int 1 (oD s2.order), .row true T.api_Vec 9 AT] ∧
    Good P F.P_bvh_builder_node [.ptr 0 0, .d (.i .i64 (Ω .ci f)), .d (.i .i64 (Ω .ci (c / 2)))] [.var (bcell Ψ (.own 1 22) (.own 2 1) (.own 3 9) TD), .row true T.api_Node 22 (Ω .scat (nodesD nodes) [.agg (dNode Ψ ⟨J, 0, 0, 0, 0⟩)]), .row true T.int 1 (oD s2.order), .row true T.api_Vec 9 AT]
     (.d (.i .i64 (Ω .ci (nodes.length + 1)))) [.var (bcell Ψ (.own 4 22) (.own 2 1) (.own 3 9) TD), .dead, .row true T.int 1 (oD s3.order), .row true T.api_Vec 9 AT, .row true T.api_Node 22 (nodesD s3.nodes)] ∧
    Good P F.P_bvh_builder_node [.ptr 0 0, .d (.i .i64 (Ω .ci (f + c / 2))), .d (.i .i64 (Ω .ci (c - c / 2)))] [.var (bcell Ψ (.own 1 22) (.own 2 1) (.own 3 9) TD), .row true T.api_Node 22 (nodesD s3.nodes), .row true T.int 1 (oD s3.order), .row true T.api_Vec 9 AT]
     (.d (.i .i64 (Ω .ci s3.nodes.length))) [.var (bcell Ψ (.own 4 22) (.own 2 1) (.own 3 9) TD), .dead, .row true T.int 1 (oD s4.order), .row true T.api_Vec 9 AT, .row true T.api_Node 22 (nodesD s4.nodes)] ∧
    s4.nodes[nodes.length]? = some ⟨J, 0, 0, 0, 0⟩ := fun h4 => by
   rw [if_neg (by omega)] at hs'
   have hseg : ((order.drop f).take c).Nodup := (hnd.sublist (List.drop_sublist _ _)).sublist (List.take_sublist _ _)
   have hsl : ((order.drop f).take c).length = c := by rw [List.length_take, List.length_drop]; omega
   have hpp := partS_perm (lt := aheadS m (widS (bxM m ((order.drop f).take c)))) (fun p => by unfold aheadS; simp) c ((order.drop f).take c) (c / 2) hseg
   have hpl := hpp.length_eq.trans hsl
   have l0 : (order.take f).length = f := by rw [List.length_take]; omega
   obtain ⟨s2, hs2⟩ : ∃ s2 : BS, s2 = ⟨nodes ++ [⟨J, 0, 0, 0, 0⟩], order.take f ++ partS (aheadS m (widS (bxM m ((order.drop f).take c)))) c ((order.drop f).take c) (c / 2) ++ order.drop (f + c)⟩ := ⟨_, rfl⟩
   rw [← hs2] at hs'
   have o2p : s2.order.Perm order := by
    rw [hs2]
    have e : order.take f ++ (order.drop f).take c ++ order.drop (f + c) = order := by
     rw [List.append_assoc, ← List.drop_drop, List.take_append_drop, List.take_append_drop]
    exact ((hpp.append_left _).append_right _).trans (.of_eq e)
   have l2 := o2p.length_eq
   have n2 : s2.nodes.length = nodes.length + 1 := by rw [hs2]; simp
   have nd2 := o2p.nodup_iff.2 hnd
   obtain ⟨t3, h3⟩ := nodeS_ok (m := m) (tris := tris) g f (c / 2) s2 (by omega) (by omega) (by omega) nd2
   have g3 := bnode_good hT hA ht hm hk hk2 g f (c / 2) s2 (by omega) (by omega) (by omega) nd2 (fun i hi => hov i (o2p.mem_iff.1 hi)) (by omega) (by omega)
   obtain ⟨s3, hs3⟩ : ∃ s3, s3 = nodeS m tris g f (c / 2) s2 := ⟨_, rfl⟩
   rw [← hs3] at hs' h3 g3
   have o3p : s3.order.Perm order := (nodup_of_parts h3.len h3.perm h3.out).trans o2p
   have l3 := o3p.length_eq
   have m3 := h3.more
   have nd3 := o3p.nodup_iff.2 hnd
   obtain ⟨t4, h4'⟩ := nodeS_ok (m := m) (tris := tris) g (f + c / 2) (c - c / 2) s3 (by omega) (by omega) (by omega) nd3
   have g4 := bnode_good hT hA ht hm hk hk2 g (f + c / 2) (c - c / 2) s3 (by omega) (by omega) (by omega) nd3 (fun i hi => hov i (o3p.mem_iff.1 hi)) (by omega) (by omega)
   obtain ⟨s4, hs4⟩ : ∃ s4, s4 = nodeS m tris g (f + c / 2) (c - c / 2) s3 := ⟨_, rfl⟩
   rw [← hs4] at hs' h4' g4
   have q3 := h3.lt
   refine ⟨widS (bxM m ((order.drop f).take c)), s2, s3, s4, hs', widest_good (order := order) (m := m) (OD := oD order) (TD := TD) (AT := AT) ⟨hoF.get _, hol, fun i hi => hA i (hov i hi), hos⟩ f c hfc hc hm hk hk2, ?_, ?_, g4, ?_⟩
   ·have := part_good (order := order) (m := m) (ND := Ω .scat (nodesD nodes) [.agg (dNode Ψ ⟨J, 0, 0, 0, 0⟩)]) (TD := TD) (AT := AT) (fun i hi => hA i (hov i hi)) hos hnd f c (c / 2) (widS (bxM m ((order.drop f).take c))) hfc (by omega) hm hk hk2
    rw [hs2]
    exact this
   ·rw [n2] at g3
    rw [hnF.cat]
    have e : s2.nodes = nodes ++ [⟨J, 0, 0, 0, 0⟩] := by rw [hs2]
    rw [e] at g3
    exact g3
   ·rw [h4'.old _ (by omega), h3.old _ (by omega), hs2]
    simp
  generalize oD = O at *
  generalize nodesD = N at *
  refine rq ?_
  rw [hw]
  refine rq ?_
  rw [hol]
  refine ⟨ci_nonneg _, (by simp only [wz]; omega), (by simp only [wz]; omega), (by simp only [wz]; omega), (fun h => nomatch h), ?_⟩
  rw [e1]
  refine LoopG.introB (σ := Nat) [.slot 7 900001 T.api_Box 18] [0, 1, 2, 7, 23, 24, 25] [0, 1, 2, 3, 1050]
   (fun i => [.ptr 0 0, .d (.i .i64 (Ω .ci f)), .d (.i .i64 (Ω .ci c)), .own 1050 18, .ref 2 1 f c, .d (.i .i64 (Ω .ci c)), .d (.i .i64 (Ω .ci i))])
   (fun i => [.var (bcell Ψ (.own 1 22) (.own 2 1) (.own 3 9) TD), .row true T.api_Node 22 (N nodes), .row true T.int 1 (O order), .row true T.api_Vec 9 AT, .row true T.api_Box 18 (Ψ .dBs (S i))])
   (fun i => i ≤ c)
   (fun i => c - i) 0 [0, 1, 2, 3, 900001] (Nat.zero_le _) ⟨rfl, rfl, (by rw [hz]; rfl)⟩ ?_
  intro j hj
  have hsl := hlen j hj
  rcases Nat.lt_or_ge j c with hlt | hge
  ·obtain ⟨i, hi, h1, h2, h3⟩ := hel j hlt
   have e := hst j i hlt hi
   have hq : Ω .lt (Ω .ci j) (Ω .ci c) = true := by simp only [wz]; omega
   generalize tlAt tris i = t at *
   generalize bxT t = B at *
   refine rq ?_
   refine ⟨j + 1, [0, 1, 2, 3, 1510], hlt, by omega, rfl, ?_, ?_⟩
   ·refine Eq.trans (b := [.ptr 0 0, .d (.i .i64 (Ω .ci f)), .d (.i .i64 (Ω .ci c)), .own 1050 18, .ref 2 1 f c, .d (.i .i64 (Ω .ci c)), .d (.i .i64 _)]) rfl ?_
    rw [wrap_succ (by omega)]
   ·rw [e, ← scat_dBs]
    rfl
  ·obtain rfl : j = c := by omega
   have hq : Ω .lt (Ω .ci j) (Ω .ci j) = false := by simp only [wz]; omega
   by_cases h4 : j ≤ 4
   ·rw [if_pos h4] at hs'
    subst hs'
    have q4 : Ω .le (Ω .ci j) 4 = true := by simp only [wz]; omega
    have g1 : Ω .sget (Ω .scat (N nodes) [.agg (dNode Ψ ⟨J, 0, 0, 0, 0⟩)]) nodes.length = some (.agg (dNode Ψ ⟨J, 0, 0, 0, 0⟩)) := by
     rw [hnF.cat]; exact hnF.get _ _ _ (by simp)
    have g2 : Ω .sget (Ω .sset (Ω .scat (N nodes) [.agg (dNode Ψ ⟨J, 0, 0, 0, 0⟩)]) nodes.length (.agg (dNode Ψ ⟨J, 0, 0, Ω .ci f, 0⟩))) nodes.length = some (.agg (dNode Ψ ⟨J, 0, 0, Ω .ci f, 0⟩)) := by
     rw [hnF.cat, hnF.set]; exact hnF.get _ _ _ (by simp)
    have ef : N (nodes ++ [⟨J, 0, 0, Ω .ci f, Ω .ci j⟩]) = Ω .sset (Ω .sset (Ω .scat (N nodes) [.agg (dNode Ψ ⟨J, 0, 0, 0, 0⟩)]) nodes.length (.agg (dNode Ψ ⟨J, 0, 0, Ω .ci f, 0⟩))) nodes.length (.agg (dNode Ψ ⟨J, 0, 0, Ω .ci f, Ω .ci j⟩)) := by
     rw [hnF.cat, hnF.set, hnF.set, set_last, set_last]
    simp only
    rw [ef]
    clear ef hrec hst hel
    refine rq ?_
    rw [hnl]
    refine ⟨ci_nonneg _, (by simp only [wz, slen_scat, hnl]; omega), (by simp only [wz, slen_scat, hnl]; omega), _, g1, ?_⟩
    refine rq ?_
    refine ⟨ci_nonneg _, (by simp only [wz, slen_sset, slen_scat, hnl]; omega), (by simp only [wz, slen_sset, slen_scat, hnl]; omega), _, g2, ?_⟩
    refine rq ?_
    exact ⟨[1810], rfl, rfl, rfl⟩
   ·obtain ⟨al, s2, s3, s4, rfl, gw, gp, g3, g4, ha⟩ := hrec (by omega)
    clear hs' hst hel
    obtain ⟨n2, o2⟩ := s2
    obtain ⟨n3, o3⟩ := s3
    obtain ⟨n4, o4⟩ := s4
    simp only at gp g3 g4 ha ⊢
    have q4 : Ω .le (Ω .ci j) 4 = false := by simp only [wz]; omega
    have hdiv : Ω .wrap .i64 ((Ω .ci j).tdiv 2) = Ω .ci (j / 2) := by
     have e : (Ω .ci j).tdiv 2 = Ω .ci (j / 2) := (Int.ofNat_tdiv j 2).symm
     rw [e]
     exact wrap_ci (by omega)
    have hw2 : Ω .wrap .i64 (Ω .ci f + Ω .ci (j / 2)) = Ω .ci (f + j / 2) := by rw [wrap_add (by omega)]
    have hw3 : Ω .wrap .i64 (Ω .ci j - Ω .ci (j / 2)) = Ω .ci (j - j / 2) := by rw [wrap_sub (by omega) (by omega)]
    have g5 : Ω .sget (N n4) nodes.length = some (.agg (dNode Ψ ⟨J, 0, 0, 0, 0⟩)) := hnF.get _ _ _ ha
    have hal : nodes.length < n4.length := (List.getElem?_eq_some_iff.1 ha).1
    have hn4 := hnF.len n4
    have g6 : Ω .sget (Ω .sset (N n4) nodes.length (.agg (dNode Ψ ⟨J, Ω .ci (nodes.length + 1), 0, 0, 0⟩))) nodes.length = some (.agg (dNode Ψ ⟨J, Ω .ci (nodes.length + 1), 0, 0, 0⟩)) := by
     rw [hnF.set]; exact hnF.get _ _ _ (List.getElem?_set_self hal)
    have ef : N (n4.set nodes.length ⟨J, Ω .ci (nodes.length + 1), Ω .ci n3.length, 0, 0⟩) = Ω .sset (Ω .sset (N n4) nodes.length (.agg (dNode Ψ ⟨J, Ω .ci (nodes.length + 1), 0, 0, 0⟩))) nodes.length (.agg (dNode Ψ ⟨J, Ω .ci (nodes.length + 1), Ω .ci n3.length, 0, 0⟩)) := by
     rw [hnF.set, hnF.set, List.set_set]
    rw [ef]
    clear ef hrec
    refine rq ?_
    rw [hdiv]
    refine rq ?_
    rw [hw, hol]
    refine ⟨ci_nonneg _, (by simp only [wz]; omega), (by simp only [wz]; omega), (by simp only [wz]; omega), (fun h => nomatch h), ?_⟩
    refine rq ?_
    rw [e1]
    refine rq ?_
    rw [hw2, hw3]
    refine rq ?_
    rw [hn4, hnl]
    refine ⟨ci_nonneg _, (by simp only [wz]; omega), (by simp only [wz]; omega), _, g5, ?_⟩
    refine rq ?_
    refine ⟨ci_nonneg _, (by simp only [wz, slen_sset, hn4]; omega), (by simp only [wz, slen_sset, hn4]; omega), _, g6, ?_⟩
    refine rq ?_
    exact ⟨[1020056], rfl, rfl, rfl⟩
end Go.K.S
end
