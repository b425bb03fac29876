/-
  The law TraceFirst, as a contract.
-/
import Derived.Test.YtbemciakckdjlaaKk
namespace Go.K
open Go Go.K.S
set_option linter.unusedVariables false
/-- a ray that is twice as long -/
def half3 (m : M3) : M3 := ⟨m.s / 2, m.u, m.v⟩
theorem dot_dbl (d v : V3) : vdot (vmul 2 d) v = 2 * vdot d v := by unfold vdot vmul; grind
theorem dot_cross_dbl (b d c : V3) : vdot b (vcross (vmul 2 d) c) = 2 * vdot b (vcross d c) := by unfold vdot vmul vcross; grind
theorem half_nonpos {x : Rat} : x / 2 ≤ 0 ↔ x ≤ 0 := by
  have : x / 2 * 2 = x := div_mul_self' (by decide)
  constructor <;> intro h <;> grind
theorem hit_dbl (o d : V3) (t : T3) : hitS o (vmul 2 d) t = (hitS o d t).map half3 := by
  unfold hitS
  rw [dot_cross_dbl, dot_cross_dbl, dot_dbl]
  generalize vdot (vsub t.b t.a) (vcross d (vsub t.c t.a)) = det
  generalize vdot (vsub o t.a) (vcross d (vsub t.c t.a)) = fp
  generalize vdot d (vcross (vsub o t.a) (vsub t.b t.a)) = dq
  generalize vdot (vsub t.c t.a) (vcross (vsub o t.a) (vsub t.b t.a)) = cq
  by_cases h0 : det = 0
  · rw [if_pos (by rw [h0]; grind), if_pos h0]; rfl
  rw [if_neg (by intro h; apply h0; grind), if_neg h0]
  have e1 : 1 / (2 * det) * (2 * fp) = 1 / det * fp := by grind
  have e2 : 1 / (2 * det) * (2 * dq) = 1 / det * dq := by grind
  have e3 : 1 / (2 * det) * cq = 1 / det * cq / 2 := by grind
  rw [e1, e2, e3]
  generalize 1 / det * fp = u
  generalize 1 / det * dq = v
  generalize 1 / det * cq = s
  by_cases hu : u < 0
  · rw [if_pos hu, if_pos hu]; rfl
  rw [if_neg hu, if_neg hu]
  by_cases hr : v < 0 ∨ s ≤ 0 ∨ 1 < u + v
  · rw [if_pos hr, if_pos (by exact hr.elim .inl fun q => q.elim (fun h => .inr (.inl (half_nonpos.2 h))) fun h => .inr (.inr h))]; rfl
  · rw [if_neg hr, if_neg (fun q => hr (by exact q.elim .inl fun q => q.elim (fun h => .inr (.inl (half_nonpos.1 h))) fun h => .inr (.inr h)))]; rfl
/-- from where it is met a triangle is not met again -/
theorem hit_again {o d : V3} {t : T3} {m : M3} (h : hitS o d t = some m) : hitS (vat o d m.s) d t = none := by
  have hs : m.s = 1 / vdot (vsub t.b t.a) (vcross d (vsub t.c t.a)) * vdot (vsub t.c t.a) (vcross (vsub o t.a) (vsub t.b t.a)) ∧ vdot (vsub t.b t.a) (vcross d (vsub t.c t.a)) ≠ 0 := by
    unfold hitS at h
    split at h
    · cases h
    rename_i h0
    split at h
    · cases h
    split at h
    · cases h
    cases h
    exact ⟨rfl, h0⟩
  obtain ⟨hs, h0⟩ := hs
  have hp : vsub (vat o d m.s) t.a = vadd (vsub o t.a) (vmul m.s d) := by unfold vsub vat vadd vmul; simp only [V3.mk.injEq]; refine ⟨?_, ?_, ?_⟩ <;> grind
  have hz : vdot (vsub t.c t.a) (vcross (vsub (vat o d m.s) t.a) (vsub t.b t.a)) = 0 := by
    rw [hp]
    generalize vsub t.b t.a = b at *
    generalize vsub t.c t.a = c at *
    generalize vsub o t.a = f at *
    have e : vdot c (vcross (vadd f (vmul m.s d)) b) = vdot c (vcross f b) + m.s * - vdot b (vcross d c) := by unfold vdot vcross vadd vmul; grind
    rw [e, hs]
    generalize vdot b (vcross d c) = det at *
    generalize vdot c (vcross f b) = cq at *
    grind
  unfold hitS
  rw [if_neg h0, hz]
  split
  · rfl
  · rw [if_pos (.inr (.inl (by rw [Rat.mul_zero]; exact Rat.le_refl)))]
theorem hitAt_dbl (o d : VL) (tris : List TL) (i : Nat) : hitAt o (Ψ .cV (vmul 2 (vv d))) tris i = (hitAt o d tris i).map half3 := by
  unfold hitAt
  cases tris[i]? with
  | none => rfl
  | some t => simp only [vv_cV, hit_dbl]
theorem first_dbl (o d : VL) (tris : List TL) : firstS o (Ψ .cV (vmul 2 (vv d))) tris = ⟨(firstS o d tris).best, if (firstS o d tris).best = -1 then m0 else half3 (firstS o d tris).m⟩ := by
  refine (first_best o (Ψ .cV (vmul 2 (vv d))) tris).same ?_
  rcases first_best o d tris with ⟨e, hn⟩ | ⟨i, h1, h2, h3, h4⟩
  · refine .inl ⟨?_, fun j hj => by rw [hitAt_dbl, hn j hj]; rfl⟩
    rw [e]; rfl
  · refine .inr ⟨i, h1, h2, ?_, fun j m hj hm => ?_⟩
    · rw [hitAt_dbl, h3, if_neg (by omega)]; rfl
    · rw [hitAt_dbl] at hm
      cases hh : hitAt o d tris j with
      | none => rw [hh] at hm; cases hm
      | some m' =>
        rw [hh] at hm
        cases hm
        rw [if_neg (by omega)]
        have := h4 j m' hj hh
        simp only [half3]
        have e1 : (firstS o d tris).m.s / 2 * 2 = (firstS o d tris).m.s := div_mul_self' (by decide)
        have e2 : m'.s / 2 * 2 = m'.s := div_mul_self' (by decide)
        rcases this with h | ⟨h, h'⟩
        · exact .inl (by grind)
        · exact .inr ⟨by rw [h], h'⟩
theorem first_again {o d : VL} {tris : List TL} {i : Nat} (h : (firstS o d tris).best = (i : Int)) : (firstS (Ψ .cV (vat (vv o) (vv d) (firstS o d tris).m.s)) d tris).best ≠ (i : Int) := fun hc => by
  have hh : hitAt o d tris i = some (firstS o d tris).m := by
    rcases first_best o d tris with ⟨e, _⟩ | ⟨k, h1, h2, h3, _⟩
    · rw [e] at h
      have : (-1 : Int) = (i : Int) := h
      omega
    · obtain rfl : k = i := by omega
      exact h3
  have hh2 : hitAt (Ψ .cV (vat (vv o) (vv d) (firstS o d tris).m.s)) d tris i = some (firstS (Ψ .cV (vat (vv o) (vv d) (firstS o d tris).m.s)) d tris).m := by
    rcases first_best (Ψ .cV (vat (vv o) (vv d) (firstS o d tris).m.s)) d tris with ⟨e, _⟩ | ⟨k, h1, h2, h3, _⟩
    · rw [e] at hc
      have : (-1 : Int) = (i : Int) := hc
      omega
    · obtain rfl : k = i := by omega
      exact h3
  unfold hitAt at hh hh2
  cases ht : tris[i]? with
  | none => rw [ht] at hh; cases hh
  | some t =>
    rw [ht] at hh hh2
    simp only [vv_cV] at hh2
    rw [hit_again hh] at hh2
    cases hh2
end Go.K
namespace Go.K.S
open Go Go.K
set_option maxHeartbeats 8000000
set_option maxRecDepth 20000
set_option linter.unusedVariables false
set_option linter.unusedSimpArgs false

theorem traceFirst_good (l : List TL) (o d : VL) (hl : l.length ≤ 1048576 ∧ ∀ t, t ∈ l → Tn 1048576 t) (ho : Vn 1048576 o) (hd : Vn 1048576 d) :
    Good P F.penumbralaw12_TraceFirst [.d (.sl (l.map fun t => .agg (dT Ψ t))), .d (.agg (dV Ψ o)), .d (.agg (dV Ψ d))] [] (.d (.b true)) [] := by
  refine G.penumbralaw12_TraceFirst fun C C2 hC hC2 => ?_
  obtain ⟨hln, hl⟩ := hl
  have gf := fixed12_good
  have T1 := triH_of (tris := l) (by omega)
  obtain ⟨TD, hTD⟩ : ∃ TD, TD = l.map fun t => (.agg (dT Ψ t) : D) := ⟨_, rfl⟩
  rw [← hTD] at T1 ⊢
  have tl := T1.tl
  by_cases h60 : 60 < l.length
  · have q : Ω .lt 60 (Ω .ci (Ω .slen TD)) = true := by rw [tl]; simp only [wz]; omega
    exact rk trivial
  have q : Ω .lt 60 (Ω .ci (Ω .slen TD)) = false := by rw [tl]; simp only [wz]; omega
  have gt1 := tree_good T1 hl (by omega) (by omega)
  have gn1 := nearest_all T1 o d ho hd hl (by omega) (by omega)
  have g2 := rof_good 2 1 (by omega) (by omega) (by omega) (by omega)
  have e2 : ((2 : Int) : Rat) / ((1 : Int) : Rat) = 2 := by decide +kernel
  rw [e2] at g2
  have q2 : Qn 1 2 := Qn_int (n := 2) (by decide)
  have gs := vscale_good (Ψ .cr 2) d ((Rn_cr.2 q2).mono (show 1 ≤ 1048576 by omega)) hd (by omega) (by omega)
  rw [rv_cr] at gs
  have pd2 := (Pn_mul q2 (Pn_vv hd (by omega)) (by omega)).mono (show _ ≤ 2 * 1048576 by omega)
  have gn2 := nearest_all T1 o (Ψ .cV (vmul 2 (vv d))) (k := 2 * 1048576) (ho.mono (by omega)) (Vn_cV pd2) (fun t h => (hl t h).mono (by omega)) (by omega) (by omega)
  have hdbl := first_dbl o d l
  have hfb := first_best o d l
  have hca := first_cases o d l
  have hM := fun i m h => Mn_hit (i := i) (m := m) ho hd hl (by omega) h
  have hag := fun i => first_again (o := o) (d := d) (tris := l) (i := i)
  have gh := fun (t : TL) (h : t ∈ l) => hit_good o d t ho hd (hl t h) (by omega) (by omega)
  rcases hca with e | ⟨i, hi, hb, hh⟩
  · -- nothing is met
    rw [e] at gn1
    rw [hdbl, e] at gn2
    have hn : ∀ j, j < l.length → hitAt o d l j = none := by
      rcases hfb with ⟨_, h⟩ | ⟨k, h, _⟩
      · exact h
      · exfalso; rw [e] at h; have : (-1 : Int) = (k : Int) := h; omega
    change Good P _ _ _ (.tup [.d (.i .i64 (-1)), .d (.agg (dM Ψ (Ψ .cM m0))), .d (.b false)]) _ at gn1
    change Good P _ _ _ (.tup [.d (.i .i64 (-1)), .d (.agg (dM Ψ (Ψ .cM m0))), .d (.b false)]) _ at gn2
    generalize nodesD (treeN l l.length) = N1 at *
    generalize orderD l.length = O1 at *
    clear hdbl hfb hM hag pd2
    generalize Ψ .cV (vmul 2 (vv d)) = d2 at *
    refine rk ?_
    refine LoopG.intro (σ := Nat) [0, 4, 5, 6, 7, 8, 9, 10, 12, 14] [1050, 1051, 1052, 1053, 1054]
      (fun j => [.d (.sl TD), .ptr 1050 0, .ptr 1051 0, .d (.b false), .ptr 1052 0, .d (.i .i64 (-1)), .ptr 1053 0, .d (.b false), .ptr 1054 0, .d (.i .i64 (Ω .ci j))])
      (fun j => [.var ((dV Ψ o).map V.d), .var ((dV Ψ d).map V.d), .var [.d (.sl N1), .d (.sl O1)], .var ((dM Ψ (Ψ .cM m0)).map V.d), .var ((dM Ψ (Ψ .cM m0)).map V.d)])
      (fun j => j ≤ l.length) (fun j => l.length - j) 0 [1000, 1001, 1302, 1409, 1511] (Nat.zero_le _) ⟨rfl, rfl, rfl⟩ ?_
    intro j hj
    rcases Nat.lt_or_ge j l.length with hlt | hge
    · obtain ⟨t, htr⟩ : ∃ t, l[j]? = some t := ⟨_, List.getElem?_eq_getElem hlt⟩
      have q1 : Ω .lt (Ω .ci j) (Ω .ci (Ω .slen TD)) = true := by rw [tl]; simp only [wz]; omega
      have e1 := T1.t _ _ htr
      have g := gh t (List.mem_of_getElem? htr)
      have hno := hn j hlt
      unfold hitAt at hno
      rw [htr] at hno
      have hok : hitOk (vv o) (vv d) (tv t) = false := by unfold hitOk; simp only at hno; rw [hno]; rfl
      rw [hok] at g
      generalize hitM (vv o) (vv d) (tv t) = m at *
      refine rk ?_
      refine ⟨j + 1, [1050, 1051, 1052, 1053, 1054], hlt, by omega, rfl, ?_, rfl⟩
      refine Eq.trans (b := [.d (.sl TD), .ptr 1050 0, .ptr 1051 0, .d (.b false), .ptr 1052 0, .d (.i .i64 (-1)), .ptr 1053 0, .d (.b false), .ptr 1054 0, .d (.i .i64 _)]) rfl ?_
      rw [wrap_succ (by omega)]
    · have q1 : Ω .lt (Ω .ci j) (Ω .ci (Ω .slen TD)) = false := by rw [tl]; simp only [wz]; omega
      exact rk trivial
  · have mn := hM i _ hh
    have hfi : ∀ j m, j < l.length → hitAt o d l j = some m → (firstS o d l).m.s < m.s ∨ ((firstS o d l).m.s = m.s ∧ i ≤ j) := fun j m hj hm => by
      rcases hfb with ⟨h, _⟩ | ⟨k, h1, h2, h3, h4⟩
      · rw [h] at hb
        have : (-1 : Int) = (i : Int) := hb
        omega
      · obtain rfl : k = i := by omega
        exact h4 j m hj hm
    have hdb : firstS o (Ψ .cV (vmul 2 (vv d))) l = ⟨(i : Int), half3 (firstS o d l).m⟩ := by rw [hdbl, hb, if_neg (by omega)]
    rw [hdb] at gn2
    have hagi := hag i hb
    have ga := at_good o d (Ψ .cr (firstS o d l).m.s) (k := 60 * 1048576 + 60) (ho.mono (by omega)) (hd.mono (by omega)) mn.s (by omega) (by omega)
    rw [rv_cr] at ga
    change Good P _ _ _ (V.d (.agg (dV Ψ (Ψ .cV (vat (vv o) (vv d) (firstS o d l).m.s))))) _ at ga
    have qs : Qn (60 * 1048576 + 60) (firstS o d l).m.s := Rn_cr.1 mn.s
    have pa : Pn (63 * 1048576) (vat (vv o) (vv d) (firstS o d l).m.s) := (Pn_add (Pn_vv ho (by omega)) (Pn_mul qs (Pn_vv hd (by omega)) (by omega))).mono (by omega)
    have gn3 := nearest_all T1 (Ψ .cV (vat (vv o) (vv d) (firstS o d l).m.s)) d (k := 63 * 1048576) (Vn_cV pa) (hd.mono (by omega)) (fun t h => (hl t h).mono (by omega)) (by omega) (by omega)
    have q3 : Ω .ne (firstS (Ψ .cV (vat (vv o) (vv d) (firstS o d l).m.s)) d l).best (Ω .ci i) = true := ne_true'.2 hagi
    obtain ⟨ti, hti⟩ : ∃ t, l[i]? = some t := ⟨_, List.getElem?_eq_getElem hi⟩
    have ei := T1.t _ _ hti
    have ghi := gh ti (List.mem_of_getElem? hti)
    have hhi := hh
    unfold hitAt at hhi
    rw [hti] at hhi
    simp only at hhi
    have hok1 : hitOk (vv o) (vv d) (tv ti) = true := by unfold hitOk; rw [hhi]; rfl
    have hok2 : hitM (vv o) (vv d) (tv ti) = (firstS o d l).m := by unfold hitM; rw [hhi]; rfl
    rw [hok1, hok2] at ghi
    have gis := is8_good (Ψ .cM (firstS o d l).m) (Ψ .cM (firstS o d l).m) mn mn (by omega) (by omega)
    rw [decide_eq_true rfl] at gis
    have qh : Qn (60 * 1048576 + 61) ((firstS o d l).m.s / 2) := (Qn_div qs q2 (by omega)).mono (by omega)
    have gpr := prod2_good (Ψ .cr ((firstS o d l).m.s / 2)) (Ψ .cr 2) (k := 60 * 1048576 + 61) (Rn_cr.2 qh) ((Rn_cr.2 q2).mono (by omega)) (by omega) (by omega)
    rw [rv_cr, rv_cr, show (firstS o d l).m.s / 2 * 2 = (firstS o d l).m.s from div_mul_self' (by decide)] at gpr
    have gi3 := is3_good (Ψ .cr (firstS o d l).m.s) (Ψ .cr (firstS o d l).m.s) mn.s mn.s (by omega) (by omega)
    rw [decide_eq_true rfl] at gi3
    have ehalf : Ψ .cM (half3 (firstS o d l).m) = ⟨Ψ .cr ((firstS o d l).m.s / 2), Ψ .cr (firstS o d l).m.u, Ψ .cr (firstS o d l).m.v⟩ := rfl
    simp only [ehalf, decide_eq_true (show (0 : Int) ≤ (i : Int) by omega)] at gn2
    rw [hb, decide_eq_true (show (0 : Int) ≤ (i : Int) by omega)] at gn1
    have efirst : Ψ .cM (firstS o d l).m = ⟨Ψ .cr (firstS o d l).m.s, Ψ .cr (firstS o d l).m.u, Ψ .cr (firstS o d l).m.v⟩ := rfl
    change Good P _ _ _ (.tup [.d (.i .i64 (Ω .ci i)), _, _]) _ at gn1
    change Good P _ _ _ (.tup [.d (.i .i64 (Ω .ci i)), _, _]) _ at gn2
    have q4 : Ω .ne (Ω .ci i) (Ω .ci i) = false := by simp only [wz]
    have gcs := fun (x : Rat) (hx : Qn (60 * 1048576 + 60) x) => rcmp_good (Ψ .cr x) (Ψ .cr (firstS o d l).m.s) (Rn_cr.2 hx) mn.s (by omega) (by omega)
    have gss := fun (x : Rat) (hx : Qn (60 * 1048576 + 60) x) => rsame_good (Ψ .cr x) (Ψ .cr (firstS o d l).m.s) (Rn_cr.2 hx) mn.s (by omega) (by omega)
    simp only [rv_cr] at gcs gss
    have ilt : i < 1048577 := by omega
    clear hfb hdb hdbl hag hagi pd2 pa qs qh ehalf hok1 hok2 hhi hb
    generalize nodesD (treeN l l.length) = N1 at *
    generalize orderD l.length = O1 at *
    generalize Ψ .cV (vmul 2 (vv d)) = d2 at *
    generalize firstS (Ψ .cV (vat (vv o) (vv d) (firstS o d l).m.s)) d l = again at *
    generalize Ψ .cV (vat (vv o) (vv d) (firstS o d l).m.s) = pp at *
    generalize firstS o d l = a at *
    generalize decide (0 ≤ again.best) = ab at *
    refine rk ?_
    refine LoopG.intro (σ := Nat) [0, 4, 5, 6, 7, 8, 9, 10, 12, 14] [1050, 1051, 1052, 1053, 1054]
      (fun j => [.d (.sl TD), .ptr 1050 0, .ptr 1051 0, .d (.b false), .ptr 1052 0, .d (.i .i64 (Ω .ci i)), .ptr 1053 0, .d (.b true), .ptr 1054 0, .d (.i .i64 (Ω .ci j))])
      (fun j => [.var ((dV Ψ o).map V.d), .var ((dV Ψ d).map V.d), .var [.d (.sl N1), .d (.sl O1)], .var ((dM Ψ (Ψ .cM a.m)).map V.d), .var ((dM Ψ ⟨Ψ .cr (a.m.s / 2), Ψ .cr a.m.u, Ψ .cr a.m.v⟩).map V.d)])
      (fun j => j ≤ l.length) (fun j => l.length - j) 0 [1000, 1001, 1302, 1409, 1511] (Nat.zero_le _) ⟨rfl, rfl, rfl⟩ ?_
    intro j hj
    rcases Nat.lt_or_ge j l.length with hlt | hge
    · obtain ⟨t, htr⟩ : ∃ t, l[j]? = some t := ⟨_, List.getElem?_eq_getElem hlt⟩
      have q1 : Ω .lt (Ω .ci j) (Ω .ci (Ω .slen TD)) = true := by rw [tl]; simp only [wz]; omega
      have e1 := T1.t _ _ htr
      have g := gh t (List.mem_of_getElem? htr)
      clear gh
      have hjt : hitAt o d l j = hitS (vv o) (vv d) (tv t) := by unfold hitAt; rw [htr]
      cases hS : hitS (vv o) (vv d) (tv t) with
      | none =>
        have hok : hitOk (vv o) (vv d) (tv t) = false := by unfold hitOk; rw [hS]; rfl
        rw [hok] at g
        generalize hitM (vv o) (vv d) (tv t) = m at *
        refine rk ?_
        refine ⟨j + 1, [1050, 1051, 1052, 1053, 1054], hlt, by omega, rfl, ?_, rfl⟩
        refine Eq.trans (b := [.d (.sl TD), .ptr 1050 0, .ptr 1051 0, .d (.b false), .ptr 1052 0, .d (.i .i64 (Ω .ci i)), .ptr 1053 0, .d (.b true), .ptr 1054 0, .d (.i .i64 _)]) rfl ?_
        rw [wrap_succ (by omega)]
      | some x =>
        have hok : hitOk (vv o) (vv d) (tv t) = true := by unfold hitOk; rw [hS]; rfl
        have hok2 : hitM (vv o) (vv d) (tv t) = x := by unfold hitM; rw [hS]; rfl
        rw [hok, hok2] at g
        have hx := hfi j x hlt (by rw [hjt, hS])
        have mx := hM j x (by rw [hjt, hS])
        have qx : Qn (60 * 1048576 + 60) x.s := Rn_cr.1 mx.s
        have gc1 := gcs x.s qx
        have gc2 := gss x.s qx
        have z1 := lt_false.2 (cI_nonneg.2 (show a.m.s ≤ x.s by grind))
        have ex : Ψ .cM x = ⟨Ψ .cr x.s, Ψ .cr x.u, Ψ .cr x.v⟩ := rfl
        rw [ex] at g
        clear gcs gss
        generalize Ψ .cI x.s a.m.s = ic at *
        by_cases he : x.s = a.m.s
        · rw [decide_eq_true he] at gc2
          have z2 : Ω .lt (Ω .ci j) (Ω .ci i) = false := by
            rcases hx with h | h
            · exfalso; grind
            · simp only [wz]; omega
          refine rk ?_
          refine ⟨j + 1, [1050, 1051, 1052, 1053, 1054], hlt, by omega, rfl, ?_, rfl⟩
          refine Eq.trans (b := [.d (.sl TD), .ptr 1050 0, .ptr 1051 0, .d (.b false), .ptr 1052 0, .d (.i .i64 (Ω .ci i)), .ptr 1053 0, .d (.b true), .ptr 1054 0, .d (.i .i64 _)]) rfl ?_
          rw [wrap_succ (by omega)]
        · rw [decide_eq_false he] at gc2
          refine rk ?_
          refine ⟨j + 1, [1050, 1051, 1052, 1053, 1054], hlt, by omega, rfl, ?_, rfl⟩
          refine Eq.trans (b := [.d (.sl TD), .ptr 1050 0, .ptr 1051 0, .d (.b false), .ptr 1052 0, .d (.i .i64 (Ω .ci i)), .ptr 1053 0, .d (.b true), .ptr 1054 0, .d (.i .i64 _)]) rfl ?_
          rw [wrap_succ (by omega)]
    · have q1 : Ω .lt (Ω .ci j) (Ω .ci (Ω .slen TD)) = false := by rw [tl]; simp only [wz]; omega
      clear gh gcs gss hM hfi
      exact rk trivial
end Go.K.S
