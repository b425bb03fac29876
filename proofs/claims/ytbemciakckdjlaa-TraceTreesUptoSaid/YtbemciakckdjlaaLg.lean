/-
  Parts of the proof, joined by a program of this work: KClip, KRef, KRefAdd, KRefMul, KRefDouble, KRefDiv, KRef3, KRef5, KRef10, KRefJoin, KVec, KFix10, KLawLay.
-/
import Derived.Test.YtbemciakckdjlaaLf
import Derived.Test.YtbemciakckdjlaaLe
section
/-
  Contract of boxes.Clip.
-/
namespace Go.K.S
open Go Go.K
set_option maxHeartbeats 16000000
set_option maxRecDepth 20000
set_option linter.unusedVariables false
set_option linter.unusedSimpArgs false

theorem clip_good (o d : VL) (b : BL) {k : Nat} (ho : Vn k o) (hd : Vn k d) (hb : Bn k b) (hk : 0 < k) (hk2 : k < 8589934590) :
    Good P F.boxes_Clip [.d (.agg (dV Ψ o)), .d (.agg (dV Ψ d)), .d (.agg (dB Ψ b))] [] (.tup [.d (.agg (dS Ψ (cS Ψ (clipS (vv o) (vv d) (bv b))))), .d (.b (clipOk (vv o) (vv d) (bv b)))]) [] := by
  refine G.boxes_Clip fun C C2 hC hC2 => ?_
  have hnone := @clip_none (vv o) (vv d) (bv b)
  have hlast := @clip_last (vv o) (vv d) (bv b)
  have hstep : ∀ i s, clipN (vv o) (vv d) (bv b) i = some s → clipN (vv o) (vv d) (bv b) (i + 1) = clip1 (axV (vv o) i) (axV (vv d) i) (axV (bv b).lo i) (axV (bv b).hi i) s := fun i s h => by rw [clipN, h]; rfl
  have hzero : clipN (vv o) (vv d) (bv b) 0 = some ⟨0, 0, true⟩ := rfl
  obtain ⟨R, hR⟩ : ∃ R, R = clipS (vv o) (vv d) (bv b) := ⟨_, rfl⟩
  obtain ⟨R2, hR2⟩ : ∃ R, R = clipOk (vv o) (vv d) (bv b) := ⟨_, rfl⟩
  rw [← hR, ← hR2] at hnone hlast ⊢
  clear hR hR2
  generalize clipN (vv o) (vv d) (bv b) = N at *
  have ga1 := axes_good o
  have ga2 := axes_good d
  have ga3 := axes_good b.lo
  have ga4 := axes_good b.hi
  have g0 := zero_good
  obtain ⟨Z, hZ⟩ : ∃ Z, Z = Ψ .cr 0 := ⟨_, rfl⟩
  rw [← hZ] at g0
  have hZ2 : dS Ψ (cS Ψ ⟨0, 0, false⟩) = dS Ψ ⟨Z, Z, false⟩ := by rw [hZ]; rfl
  have hZ3 : dS Ψ (cS Ψ ⟨0, 0, true⟩) = dS Ψ ⟨Z, Z, true⟩ := by rw [hZ]; rfl
  refine nx ?_
  refine ⟨_, hC _ _ _ g0, ?_⟩
  refine nx ?_
  refine ⟨_, hC _ _ _ ga1, ?_⟩
  refine nx ?_
  refine ⟨_, hC _ _ _ ga2, ?_⟩
  refine nx ?_
  refine ⟨_, hC _ _ _ ga3, ?_⟩
  refine nx ?_
  refine ⟨_, hC _ _ _ ga4, ?_⟩
  refine nx ?_
  refine LoopG.intro (σ := Nat × S3) [6, 9, 10, 11, 12, 13, 14, 37] [1050, 1051, 1052, 1053, 1054, 1055, 1056]
      (fun x => [.ptr 1050 0, .ptr 1051 0, .ptr 1052 0, .ptr 1053 0, .ptr 1054 0, .ptr 1055 0, .ptr 1056 0, .d (.i .i64 (il x.1))])
      (fun x => [.var [.d (.b false), .nil, .nil, .d (.b false), .nil, .nil, .d (.b false)], .var ((dS Ψ ⟨Z, Z, false⟩).map V.d), .var ((dS Ψ (cS Ψ x.2)).map V.d), .var ((dV Ψ o).map V.d), .var ((dV Ψ d).map V.d), .var ((dV Ψ b.lo).map V.d), .var ((dV Ψ b.hi).map V.d)])
      (fun x => x.1 ≤ 3 ∧ N x.1 = some x.2 ∧ Sn (3 * k + 1) x.2)
      (fun x => 3 - x.1) (0, ⟨0, 0, true⟩) [1003, 1203, 1303, 1410, 1411, 1412, 1413] ⟨by simp only; omega, hzero, ⟨Qn_zero (by omega), Qn_zero (by omega)⟩⟩ ⟨rfl, rfl, ?_⟩ ?_
  · simp only [hZ3]
    rfl
  rintro ⟨_ | _ | _ | _ | i, s⟩ ⟨hi, hN, hs⟩
  · have hst := hstep _ _ hN
    have hno := @hnone _ _ hN (by omega)
    have a1 : axV (vv o) 0 = rv o.x := rfl
    have a2 : axV (vv d) 0 = rv d.x := rfl
    have a3 : axV (bv b).lo 0 = rv b.lo.x := rfl
    have a4 : axV (bv b).hi 0 = rv b.hi.x := rfl
    simp only [Nat.zero_add, a1, a2, a3, a4] at hst hno hs
    have s1 := rsub_good b.lo.x o.x hb.lo.x ho.x hk hk (by omega) (by omega)
    have s2 := rsub_good b.hi.x o.x hb.hi.x ho.x hk hk (by omega) (by omega)
    have q1 := Qn_sub (Qn_rv hb.lo.x hk) (Qn_rv ho.x hk)
    have q2 := Qn_sub (Qn_rv hb.hi.x hk) (Qn_rv ho.x hk)
    have d1 := rdiv_good _ d.x (Rn_cr.2 q1) hd.x (by omega) hk (by omega) (by omega)
    have d2 := rdiv_good _ d.x (Rn_cr.2 q2) hd.x (by omega) hk (by omega) (by omega)
    rw [rv_cr] at d1 d2
    have t1 := (Qn_div q1 (Qn_rv hd.x hk) hk).mono (show _ ≤ 3 * k + 1 by omega)
    have t2 := (Qn_div q2 (Qn_rv hd.x hk) hk).mono (show _ ≤ 3 * k + 1 by omega)
    have sg1 := sign_good d.x hd.x (by omega)
    have c1 := rcmp_good o.x b.lo.x ho.x hb.lo.x (by omega) (by omega)
    have c2 := rcmp_good o.x b.hi.x ho.x hb.hi.x (by omega) (by omega)
    have z1 := @cI_neg (rv o.x) (rv b.lo.x)
    have z2 := @cI_pos (rv o.x) (rv b.hi.x)
    by_cases hd0 : rv d.x = 0
    · rw [decide_eq_false (fun c => c hd0)] at d1 d2
      by_cases c : rv o.x < rv b.lo.x
      · obtain ⟨e1, e2⟩ := hno (by rw [clip1, if_pos hd0, if_pos (.inl c)])
        subst e1
        subst e2
        rw [hZ2]
        have z1' := z1.2 c
        clear hst hno z1 z2
        generalize Ψ .cI (rv o.x) (rv b.lo.x) = i1 at *
        generalize Ψ .cr (rv b.lo.x - rv o.x) = A1 at *
        generalize Ψ .cr (rv b.hi.x - rv o.x) = A2 at *
        generalize Ψ .cr ((rv b.lo.x - rv o.x) / rv d.x) = A3 at *
        generalize Ψ .cr ((rv b.hi.x - rv o.x) / rv d.x) = A4 at *
        refine nx ?_
        refine BrG.yes rfl ?_
        refine nx ?_
        refine ⟨_, hC _ _ _ s1, ?_⟩
        refine nx ?_
        refine ⟨_, hC _ _ _ d1, ?_⟩
        refine nx ?_
        refine ⟨_, hC _ _ _ s2, ?_⟩
        refine nx ?_
        refine ⟨_, hC _ _ _ d2, ?_⟩
        refine nx ?_
        refine ⟨_, hC _ _ _ c1, ?_⟩
        refine nx ?_
        first | rw [le_true.2 z1'] | rw [lt_true.2 z1'] | rw [eq_true'.2 z1'] | rw [ne_true'.2 z1']
        exact nx trivial
      have z1' := mt z1.1 c
      by_cases c' : rv b.hi.x < rv o.x
      · obtain ⟨e1, e2⟩ := hno (by rw [clip1, if_pos hd0, if_pos (.inr c')])
        subst e1
        subst e2
        rw [hZ2]
        have z2' := z2.2 c'
        clear hst hno z1 z2
        generalize Ψ .cI (rv o.x) (rv b.lo.x) = i1 at *
        generalize Ψ .cI (rv o.x) (rv b.hi.x) = i2 at *
        generalize Ψ .cr (rv b.lo.x - rv o.x) = A1 at *
        generalize Ψ .cr (rv b.hi.x - rv o.x) = A2 at *
        generalize Ψ .cr ((rv b.lo.x - rv o.x) / rv d.x) = A3 at *
        generalize Ψ .cr ((rv b.hi.x - rv o.x) / rv d.x) = A4 at *
        refine nx ?_
        refine BrG.yes rfl ?_
        refine nx ?_
        refine ⟨_, hC _ _ _ s1, ?_⟩
        refine nx ?_
        refine ⟨_, hC _ _ _ d1, ?_⟩
        refine nx ?_
        refine ⟨_, hC _ _ _ s2, ?_⟩
        refine nx ?_
        refine ⟨_, hC _ _ _ d2, ?_⟩
        refine nx ?_
        refine ⟨_, hC _ _ _ c1, ?_⟩
        refine nx ?_
        first | rw [le_false.2 (by omega)] | rw [lt_false.2 (by omega)] | rw [eq_false'.2 z1'] | rw [ne_false'.2 (by omega)]
        refine nx ?_
        refine ⟨_, hC _ _ _ c2, ?_⟩
        refine nx ?_
        first | rw [le_true.2 z2'] | rw [lt_true.2 z2'] | rw [eq_true'.2 z2'] | rw [ne_true'.2 z2']
        exact nx trivial
      have z2' := mt z2.1 c'
      rw [clip1, if_pos hd0, if_neg (fun q => q.elim c c')] at hst
      clear hno z1 z2
      generalize Ψ .cI (rv o.x) (rv b.lo.x) = i1 at *
      generalize Ψ .cI (rv o.x) (rv b.hi.x) = i2 at *
      generalize Ψ .cr (rv b.lo.x - rv o.x) = A1 at *
      generalize Ψ .cr (rv b.hi.x - rv o.x) = A2 at *
      generalize Ψ .cr ((rv b.lo.x - rv o.x) / rv d.x) = A3 at *
      generalize Ψ .cr ((rv b.hi.x - rv o.x) / rv d.x) = A4 at *
      refine nx ?_
      refine BrG.yes rfl ?_
      refine nx ?_
      refine ⟨_, hC _ _ _ s1, ?_⟩
      refine nx ?_
      refine ⟨_, hC _ _ _ d1, ?_⟩
      refine nx ?_
      refine ⟨_, hC _ _ _ s2, ?_⟩
      refine nx ?_
      refine ⟨_, hC _ _ _ d2, ?_⟩
      refine nx ?_
      refine ⟨_, hC _ _ _ c1, ?_⟩
      refine nx ?_
      first | rw [le_false.2 (by omega)] | rw [lt_false.2 (by omega)] | rw [eq_false'.2 z1'] | rw [ne_false'.2 (by omega)]
      refine nx ?_
      refine ⟨_, hC _ _ _ c2, ?_⟩
      refine nx ?_
      first | rw [le_false.2 (by omega)] | rw [lt_false.2 (by omega)] | rw [eq_false'.2 z2'] | rw [ne_false'.2 (by omega)]
      refine nx ?_
      exact ⟨(1, s), [1050, 1051, 1052, 1053, 1054, 1055, 1056], ⟨by simp only; omega, hst, hs⟩, by simp only; omega, rfl, rfl, rfl⟩
    rw [decide_eq_true hd0] at d1 d2
    rw [clip1, if_neg hd0] at hst
    have qn : Qn (3 * k + 1) (nearR (rv o.x) (rv d.x) (rv b.lo.x) (rv b.hi.x)) := by unfold nearR; split <;> assumption
    have qf : Qn (3 * k + 1) (farR (rv o.x) (rv d.x) (rv b.lo.x) (rv b.hi.x)) := by unfold farR; split <;> assumption
    have m1 := most_good _ _ (Rn_cr.2 hs.f) (Rn_cr.2 qn) (by omega)
    have l1 := least_good _ _ (Rn_cr.2 qf) (Rn_cr.2 qf) (by omega)
    have l2 := least_good _ _ (Rn_cr.2 hs.t) (Rn_cr.2 qf) (by omega)
    simp only [rv_cr] at m1 l1 l2
    have qa := Qn_max hs.f qn
    have qb := Qn_min qf qf
    have qc := Qn_min hs.t qf
    have z := @sI_neg (rv d.x)
    by_cases c : rv d.x < 0
    · have z' := z.2 c
      have en : nearR (rv o.x) (rv d.x) (rv b.lo.x) (rv b.hi.x) = (rv b.hi.x - rv o.x) / rv d.x := if_pos c
      have ef : farR (rv o.x) (rv d.x) (rv b.lo.x) (rv b.hi.x) = (rv b.lo.x - rv o.x) / rv d.x := if_pos c
      rw [← ef] at d1
      rw [← en] at d2
      clear hno z z1 z2 qn qf t1 t2 q1 q2 en ef
      generalize nearR (rv o.x) (rv d.x) (rv b.lo.x) (rv b.hi.x) = nn at *
      generalize farR (rv o.x) (rv d.x) (rv b.lo.x) (rv b.hi.x) = ff at *
      generalize Ψ .cr (rv b.lo.x - rv o.x) = A1 at *
      generalize Ψ .cr (rv b.hi.x - rv o.x) = A2 at *
      generalize Ψ .sI (rv d.x) = i1 at *
      obtain ⟨f, t, op⟩ := s
      simp only at *
      cases op
      all_goals
        refine nx ?_
        refine BrG.yes rfl ?_
        refine nx ?_
        refine ⟨_, hC _ _ _ s1, ?_⟩
        refine nx ?_
        refine ⟨_, hC _ _ _ d1, ?_⟩
        refine nx ?_
        refine ⟨_, hC _ _ _ s2, ?_⟩
        refine nx ?_
        refine ⟨_, hC _ _ _ d2, ?_⟩
        refine nx ?_
        refine ⟨_, hC _ _ _ sg1, ?_⟩
        refine nx ?_
        first | rw [le_true.2 z'] | rw [lt_true.2 z'] | rw [eq_true'.2 z'] | rw [ne_true'.2 z']
        refine nx ?_
        refine ⟨_, hC _ _ _ m1, ?_⟩
        refine nx ?_
      · refine ⟨_, hC _ _ _ l2, ?_⟩
        refine nx ?_
        exact ⟨(1, ⟨_, _, _⟩), [1050, 1051, 1052, 1053, 1054, 1055, 1056], ⟨by simp only; omega, hst, qa, qc⟩, by simp only; omega, rfl, rfl, rfl⟩
      · refine ⟨_, hC _ _ _ l1, ?_⟩
        refine nx ?_
        exact ⟨(1, ⟨_, _, _⟩), [1050, 1051, 1052, 1053, 1054, 1055, 1056], ⟨by simp only; omega, hst, qa, qb⟩, by simp only; omega, rfl, rfl, rfl⟩
    · have z' := mt z.1 c
      have en : nearR (rv o.x) (rv d.x) (rv b.lo.x) (rv b.hi.x) = (rv b.lo.x - rv o.x) / rv d.x := if_neg c
      have ef : farR (rv o.x) (rv d.x) (rv b.lo.x) (rv b.hi.x) = (rv b.hi.x - rv o.x) / rv d.x := if_neg c
      rw [← en] at d1
      rw [← ef] at d2
      clear hno z z1 z2 qn qf t1 t2 q1 q2 en ef
      generalize nearR (rv o.x) (rv d.x) (rv b.lo.x) (rv b.hi.x) = nn at *
      generalize farR (rv o.x) (rv d.x) (rv b.lo.x) (rv b.hi.x) = ff at *
      generalize Ψ .cr (rv b.lo.x - rv o.x) = A1 at *
      generalize Ψ .cr (rv b.hi.x - rv o.x) = A2 at *
      generalize Ψ .sI (rv d.x) = i1 at *
      obtain ⟨f, t, op⟩ := s
      simp only at *
      cases op
      all_goals
        refine nx ?_
        refine BrG.yes rfl ?_
        refine nx ?_
        refine ⟨_, hC _ _ _ s1, ?_⟩
        refine nx ?_
        refine ⟨_, hC _ _ _ d1, ?_⟩
        refine nx ?_
        refine ⟨_, hC _ _ _ s2, ?_⟩
        refine nx ?_
        refine ⟨_, hC _ _ _ d2, ?_⟩
        refine nx ?_
        refine ⟨_, hC _ _ _ sg1, ?_⟩
        refine nx ?_
        first | rw [le_false.2 (by omega)] | rw [lt_false.2 (by omega)] | rw [eq_false'.2 z'] | rw [ne_false'.2 (by omega)]
        refine nx ?_
        refine ⟨_, hC _ _ _ m1, ?_⟩
        refine nx ?_
      · refine ⟨_, hC _ _ _ l2, ?_⟩
        refine nx ?_
        exact ⟨(1, ⟨_, _, _⟩), [1050, 1051, 1052, 1053, 1054, 1055, 1056], ⟨by simp only; omega, hst, qa, qc⟩, by simp only; omega, rfl, rfl, rfl⟩
      · refine ⟨_, hC _ _ _ l1, ?_⟩
        refine nx ?_
        exact ⟨(1, ⟨_, _, _⟩), [1050, 1051, 1052, 1053, 1054, 1055, 1056], ⟨by simp only; omega, hst, qa, qb⟩, by simp only; omega, rfl, rfl, rfl⟩
  · have hst := hstep _ _ hN
    have hno := @hnone _ _ hN (by omega)
    have a1 : axV (vv o) 1 = rv o.y := rfl
    have a2 : axV (vv d) 1 = rv d.y := rfl
    have a3 : axV (bv b).lo 1 = rv b.lo.y := rfl
    have a4 : axV (bv b).hi 1 = rv b.hi.y := rfl
    simp only [Nat.zero_add, a1, a2, a3, a4] at hst hno hs
    have s1 := rsub_good b.lo.y o.y hb.lo.y ho.y hk hk (by omega) (by omega)
    have s2 := rsub_good b.hi.y o.y hb.hi.y ho.y hk hk (by omega) (by omega)
    have q1 := Qn_sub (Qn_rv hb.lo.y hk) (Qn_rv ho.y hk)
    have q2 := Qn_sub (Qn_rv hb.hi.y hk) (Qn_rv ho.y hk)
    have d1 := rdiv_good _ d.y (Rn_cr.2 q1) hd.y (by omega) hk (by omega) (by omega)
    have d2 := rdiv_good _ d.y (Rn_cr.2 q2) hd.y (by omega) hk (by omega) (by omega)
    rw [rv_cr] at d1 d2
    have t1 := (Qn_div q1 (Qn_rv hd.y hk) hk).mono (show _ ≤ 3 * k + 1 by omega)
    have t2 := (Qn_div q2 (Qn_rv hd.y hk) hk).mono (show _ ≤ 3 * k + 1 by omega)
    have sg1 := sign_good d.y hd.y (by omega)
    have c1 := rcmp_good o.y b.lo.y ho.y hb.lo.y (by omega) (by omega)
    have c2 := rcmp_good o.y b.hi.y ho.y hb.hi.y (by omega) (by omega)
    have z1 := @cI_neg (rv o.y) (rv b.lo.y)
    have z2 := @cI_pos (rv o.y) (rv b.hi.y)
    by_cases hd0 : rv d.y = 0
    · rw [decide_eq_false (fun c => c hd0)] at d1 d2
      by_cases c : rv o.y < rv b.lo.y
      · obtain ⟨e1, e2⟩ := hno (by rw [clip1, if_pos hd0, if_pos (.inl c)])
        subst e1
        subst e2
        rw [hZ2]
        have z1' := z1.2 c
        clear hst hno z1 z2
        generalize Ψ .cI (rv o.y) (rv b.lo.y) = i1 at *
        generalize Ψ .cr (rv b.lo.y - rv o.y) = A1 at *
        generalize Ψ .cr (rv b.hi.y - rv o.y) = A2 at *
        generalize Ψ .cr ((rv b.lo.y - rv o.y) / rv d.y) = A3 at *
        generalize Ψ .cr ((rv b.hi.y - rv o.y) / rv d.y) = A4 at *
        refine nx ?_
        refine BrG.yes rfl ?_
        refine nx ?_
        refine ⟨_, hC _ _ _ s1, ?_⟩
        refine nx ?_
        refine ⟨_, hC _ _ _ d1, ?_⟩
        refine nx ?_
        refine ⟨_, hC _ _ _ s2, ?_⟩
        refine nx ?_
        refine ⟨_, hC _ _ _ d2, ?_⟩
        refine nx ?_
        refine ⟨_, hC _ _ _ c1, ?_⟩
        refine nx ?_
        first | rw [le_true.2 z1'] | rw [lt_true.2 z1'] | rw [eq_true'.2 z1'] | rw [ne_true'.2 z1']
        exact nx trivial
      have z1' := mt z1.1 c
      by_cases c' : rv b.hi.y < rv o.y
      · obtain ⟨e1, e2⟩ := hno (by rw [clip1, if_pos hd0, if_pos (.inr c')])
        subst e1
        subst e2
        rw [hZ2]
        have z2' := z2.2 c'
        clear hst hno z1 z2
        generalize Ψ .cI (rv o.y) (rv b.lo.y) = i1 at *
        generalize Ψ .cI (rv o.y) (rv b.hi.y) = i2 at *
        generalize Ψ .cr (rv b.lo.y - rv o.y) = A1 at *
        generalize Ψ .cr (rv b.hi.y - rv o.y) = A2 at *
        generalize Ψ .cr ((rv b.lo.y - rv o.y) / rv d.y) = A3 at *
        generalize Ψ .cr ((rv b.hi.y - rv o.y) / rv d.y) = A4 at *
        refine nx ?_
        refine BrG.yes rfl ?_
        refine nx ?_
        refine ⟨_, hC _ _ _ s1, ?_⟩
        refine nx ?_
        refine ⟨_, hC _ _ _ d1, ?_⟩
        refine nx ?_
        refine ⟨_, hC _ _ _ s2, ?_⟩
        refine nx ?_
        refine ⟨_, hC _ _ _ d2, ?_⟩
        refine nx ?_
        refine ⟨_, hC _ _ _ c1, ?_⟩
        refine nx ?_
        first | rw [le_false.2 (by omega)] | rw [lt_false.2 (by omega)] | rw [eq_false'.2 z1'] | rw [ne_false'.2 (by omega)]
        refine nx ?_
        refine ⟨_, hC _ _ _ c2, ?_⟩
        refine nx ?_
        first | rw [le_true.2 z2'] | rw [lt_true.2 z2'] | rw [eq_true'.2 z2'] | rw [ne_true'.2 z2']
        exact nx trivial
      have z2' := mt z2.1 c'
      rw [clip1, if_pos hd0, if_neg (fun q => q.elim c c')] at hst
      clear hno z1 z2
      generalize Ψ .cI (rv o.y) (rv b.lo.y) = i1 at *
      generalize Ψ .cI (rv o.y) (rv b.hi.y) = i2 at *
      generalize Ψ .cr (rv b.lo.y - rv o.y) = A1 at *
      generalize Ψ .cr (rv b.hi.y - rv o.y) = A2 at *
      generalize Ψ .cr ((rv b.lo.y - rv o.y) / rv d.y) = A3 at *
      generalize Ψ .cr ((rv b.hi.y - rv o.y) / rv d.y) = A4 at *
      refine nx ?_
      refine BrG.yes rfl ?_
      refine nx ?_
      refine ⟨_, hC _ _ _ s1, ?_⟩
      refine nx ?_
      refine ⟨_, hC _ _ _ d1, ?_⟩
      refine nx ?_
      refine ⟨_, hC _ _ _ s2, ?_⟩
      refine nx ?_
      refine ⟨_, hC _ _ _ d2, ?_⟩
      refine nx ?_
      refine ⟨_, hC _ _ _ c1, ?_⟩
      refine nx ?_
      first | rw [le_false.2 (by omega)] | rw [lt_false.2 (by omega)] | rw [eq_false'.2 z1'] | rw [ne_false'.2 (by omega)]
      refine nx ?_
      refine ⟨_, hC _ _ _ c2, ?_⟩
      refine nx ?_
      first | rw [le_false.2 (by omega)] | rw [lt_false.2 (by omega)] | rw [eq_false'.2 z2'] | rw [ne_false'.2 (by omega)]
      refine nx ?_
      exact ⟨(2, s), [1050, 1051, 1052, 1053, 1054, 1055, 1056], ⟨by simp only; omega, hst, hs⟩, by simp only; omega, rfl, rfl, rfl⟩
    rw [decide_eq_true hd0] at d1 d2
    rw [clip1, if_neg hd0] at hst
    have qn : Qn (3 * k + 1) (nearR (rv o.y) (rv d.y) (rv b.lo.y) (rv b.hi.y)) := by unfold nearR; split <;> assumption
    have qf : Qn (3 * k + 1) (farR (rv o.y) (rv d.y) (rv b.lo.y) (rv b.hi.y)) := by unfold farR; split <;> assumption
    have m1 := most_good _ _ (Rn_cr.2 hs.f) (Rn_cr.2 qn) (by omega)
    have l1 := least_good _ _ (Rn_cr.2 qf) (Rn_cr.2 qf) (by omega)
    have l2 := least_good _ _ (Rn_cr.2 hs.t) (Rn_cr.2 qf) (by omega)
    simp only [rv_cr] at m1 l1 l2
    have qa := Qn_max hs.f qn
    have qb := Qn_min qf qf
    have qc := Qn_min hs.t qf
    have z := @sI_neg (rv d.y)
    by_cases c : rv d.y < 0
    · have z' := z.2 c
      have en : nearR (rv o.y) (rv d.y) (rv b.lo.y) (rv b.hi.y) = (rv b.hi.y - rv o.y) / rv d.y := if_pos c
      have ef : farR (rv o.y) (rv d.y) (rv b.lo.y) (rv b.hi.y) = (rv b.lo.y - rv o.y) / rv d.y := if_pos c
      rw [← ef] at d1
      rw [← en] at d2
      clear hno z z1 z2 qn qf t1 t2 q1 q2 en ef
      generalize nearR (rv o.y) (rv d.y) (rv b.lo.y) (rv b.hi.y) = nn at *
      generalize farR (rv o.y) (rv d.y) (rv b.lo.y) (rv b.hi.y) = ff at *
      generalize Ψ .cr (rv b.lo.y - rv o.y) = A1 at *
      generalize Ψ .cr (rv b.hi.y - rv o.y) = A2 at *
      generalize Ψ .sI (rv d.y) = i1 at *
      obtain ⟨f, t, op⟩ := s
      simp only at *
      cases op
      all_goals
        refine nx ?_
        refine BrG.yes rfl ?_
        refine nx ?_
        refine ⟨_, hC _ _ _ s1, ?_⟩
        refine nx ?_
        refine ⟨_, hC _ _ _ d1, ?_⟩
        refine nx ?_
        refine ⟨_, hC _ _ _ s2, ?_⟩
        refine nx ?_
        refine ⟨_, hC _ _ _ d2, ?_⟩
        refine nx ?_
        refine ⟨_, hC _ _ _ sg1, ?_⟩
        refine nx ?_
        first | rw [le_true.2 z'] | rw [lt_true.2 z'] | rw [eq_true'.2 z'] | rw [ne_true'.2 z']
        refine nx ?_
        refine ⟨_, hC _ _ _ m1, ?_⟩
        refine nx ?_
      · refine ⟨_, hC _ _ _ l2, ?_⟩
        refine nx ?_
        exact ⟨(2, ⟨_, _, _⟩), [1050, 1051, 1052, 1053, 1054, 1055, 1056], ⟨by simp only; omega, hst, qa, qc⟩, by simp only; omega, rfl, rfl, rfl⟩
      · refine ⟨_, hC _ _ _ l1, ?_⟩
        refine nx ?_
        exact ⟨(2, ⟨_, _, _⟩), [1050, 1051, 1052, 1053, 1054, 1055, 1056], ⟨by simp only; omega, hst, qa, qb⟩, by simp only; omega, rfl, rfl, rfl⟩
    · have z' := mt z.1 c
      have en : nearR (rv o.y) (rv d.y) (rv b.lo.y) (rv b.hi.y) = (rv b.lo.y - rv o.y) / rv d.y := if_neg c
      have ef : farR (rv o.y) (rv d.y) (rv b.lo.y) (rv b.hi.y) = (rv b.hi.y - rv o.y) / rv d.y := if_neg c
      rw [← en] at d1
      rw [← ef] at d2
      clear hno z z1 z2 qn qf t1 t2 q1 q2 en ef
      generalize nearR (rv o.y) (rv d.y) (rv b.lo.y) (rv b.hi.y) = nn at *
      generalize farR (rv o.y) (rv d.y) (rv b.lo.y) (rv b.hi.y) = ff at *
      generalize Ψ .cr (rv b.lo.y - rv o.y) = A1 at *
      generalize Ψ .cr (rv b.hi.y - rv o.y) = A2 at *
      generalize Ψ .sI (rv d.y) = i1 at *
      obtain ⟨f, t, op⟩ := s
      simp only at *
      cases op
      all_goals
        refine nx ?_
        refine BrG.yes rfl ?_
        refine nx ?_
        refine ⟨_, hC _ _ _ s1, ?_⟩
        refine nx ?_
        refine ⟨_, hC _ _ _ d1, ?_⟩
        refine nx ?_
        refine ⟨_, hC _ _ _ s2, ?_⟩
        refine nx ?_
        refine ⟨_, hC _ _ _ d2, ?_⟩
        refine nx ?_
        refine ⟨_, hC _ _ _ sg1, ?_⟩
        refine nx ?_
        first | rw [le_false.2 (by omega)] | rw [lt_false.2 (by omega)] | rw [eq_false'.2 z'] | rw [ne_false'.2 (by omega)]
        refine nx ?_
        refine ⟨_, hC _ _ _ m1, ?_⟩
        refine nx ?_
      · refine ⟨_, hC _ _ _ l2, ?_⟩
        refine nx ?_
        exact ⟨(2, ⟨_, _, _⟩), [1050, 1051, 1052, 1053, 1054, 1055, 1056], ⟨by simp only; omega, hst, qa, qc⟩, by simp only; omega, rfl, rfl, rfl⟩
      · refine ⟨_, hC _ _ _ l1, ?_⟩
        refine nx ?_
        exact ⟨(2, ⟨_, _, _⟩), [1050, 1051, 1052, 1053, 1054, 1055, 1056], ⟨by simp only; omega, hst, qa, qb⟩, by simp only; omega, rfl, rfl, rfl⟩
  · have hst := hstep _ _ hN
    have hno := @hnone _ _ hN (by omega)
    have a1 : axV (vv o) 2 = rv o.z := rfl
    have a2 : axV (vv d) 2 = rv d.z := rfl
    have a3 : axV (bv b).lo 2 = rv b.lo.z := rfl
    have a4 : axV (bv b).hi 2 = rv b.hi.z := rfl
    simp only [Nat.zero_add, a1, a2, a3, a4] at hst hno hs
    have s1 := rsub_good b.lo.z o.z hb.lo.z ho.z hk hk (by omega) (by omega)
    have s2 := rsub_good b.hi.z o.z hb.hi.z ho.z hk hk (by omega) (by omega)
    have q1 := Qn_sub (Qn_rv hb.lo.z hk) (Qn_rv ho.z hk)
    have q2 := Qn_sub (Qn_rv hb.hi.z hk) (Qn_rv ho.z hk)
    have d1 := rdiv_good _ d.z (Rn_cr.2 q1) hd.z (by omega) hk (by omega) (by omega)
    have d2 := rdiv_good _ d.z (Rn_cr.2 q2) hd.z (by omega) hk (by omega) (by omega)
    rw [rv_cr] at d1 d2
    have t1 := (Qn_div q1 (Qn_rv hd.z hk) hk).mono (show _ ≤ 3 * k + 1 by omega)
    have t2 := (Qn_div q2 (Qn_rv hd.z hk) hk).mono (show _ ≤ 3 * k + 1 by omega)
    have sg1 := sign_good d.z hd.z (by omega)
    have c1 := rcmp_good o.z b.lo.z ho.z hb.lo.z (by omega) (by omega)
    have c2 := rcmp_good o.z b.hi.z ho.z hb.hi.z (by omega) (by omega)
    have z1 := @cI_neg (rv o.z) (rv b.lo.z)
    have z2 := @cI_pos (rv o.z) (rv b.hi.z)
    by_cases hd0 : rv d.z = 0
    · rw [decide_eq_false (fun c => c hd0)] at d1 d2
      by_cases c : rv o.z < rv b.lo.z
      · obtain ⟨e1, e2⟩ := hno (by rw [clip1, if_pos hd0, if_pos (.inl c)])
        subst e1
        subst e2
        rw [hZ2]
        have z1' := z1.2 c
        clear hst hno z1 z2
        generalize Ψ .cI (rv o.z) (rv b.lo.z) = i1 at *
        generalize Ψ .cr (rv b.lo.z - rv o.z) = A1 at *
        generalize Ψ .cr (rv b.hi.z - rv o.z) = A2 at *
        generalize Ψ .cr ((rv b.lo.z - rv o.z) / rv d.z) = A3 at *
        generalize Ψ .cr ((rv b.hi.z - rv o.z) / rv d.z) = A4 at *
        refine nx ?_
        refine BrG.yes rfl ?_
        refine nx ?_
        refine ⟨_, hC _ _ _ s1, ?_⟩
        refine nx ?_
        refine ⟨_, hC _ _ _ d1, ?_⟩
        refine nx ?_
        refine ⟨_, hC _ _ _ s2, ?_⟩
        refine nx ?_
        refine ⟨_, hC _ _ _ d2, ?_⟩
        refine nx ?_
        refine ⟨_, hC _ _ _ c1, ?_⟩
        refine nx ?_
        first | rw [le_true.2 z1'] | rw [lt_true.2 z1'] | rw [eq_true'.2 z1'] | rw [ne_true'.2 z1']
        exact nx trivial
      have z1' := mt z1.1 c
      by_cases c' : rv b.hi.z < rv o.z
      · obtain ⟨e1, e2⟩ := hno (by rw [clip1, if_pos hd0, if_pos (.inr c')])
        subst e1
        subst e2
        rw [hZ2]
        have z2' := z2.2 c'
        clear hst hno z1 z2
        generalize Ψ .cI (rv o.z) (rv b.lo.z) = i1 at *
        generalize Ψ .cI (rv o.z) (rv b.hi.z) = i2 at *
        generalize Ψ .cr (rv b.lo.z - rv o.z) = A1 at *
        generalize Ψ .cr (rv b.hi.z - rv o.z) = A2 at *
        generalize Ψ .cr ((rv b.lo.z - rv o.z) / rv d.z) = A3 at *
        generalize Ψ .cr ((rv b.hi.z - rv o.z) / rv d.z) = A4 at *
        refine nx ?_
        refine BrG.yes rfl ?_
        refine nx ?_
        refine ⟨_, hC _ _ _ s1, ?_⟩
        refine nx ?_
        refine ⟨_, hC _ _ _ d1, ?_⟩
        refine nx ?_
        refine ⟨_, hC _ _ _ s2, ?_⟩
        refine nx ?_
        refine ⟨_, hC _ _ _ d2, ?_⟩
        refine nx ?_
        refine ⟨_, hC _ _ _ c1, ?_⟩
        refine nx ?_
        first | rw [le_false.2 (by omega)] | rw [lt_false.2 (by omega)] | rw [eq_false'.2 z1'] | rw [ne_false'.2 (by omega)]
        refine nx ?_
        refine ⟨_, hC _ _ _ c2, ?_⟩
        refine nx ?_
        first | rw [le_true.2 z2'] | rw [lt_true.2 z2'] | rw [eq_true'.2 z2'] | rw [ne_true'.2 z2']
        exact nx trivial
      have z2' := mt z2.1 c'
      rw [clip1, if_pos hd0, if_neg (fun q => q.elim c c')] at hst
      clear hno z1 z2
      generalize Ψ .cI (rv o.z) (rv b.lo.z) = i1 at *
      generalize Ψ .cI (rv o.z) (rv b.hi.z) = i2 at *
      generalize Ψ .cr (rv b.lo.z - rv o.z) = A1 at *
      generalize Ψ .cr (rv b.hi.z - rv o.z) = A2 at *
      generalize Ψ .cr ((rv b.lo.z - rv o.z) / rv d.z) = A3 at *
      generalize Ψ .cr ((rv b.hi.z - rv o.z) / rv d.z) = A4 at *
      refine nx ?_
      refine BrG.yes rfl ?_
      refine nx ?_
      refine ⟨_, hC _ _ _ s1, ?_⟩
      refine nx ?_
      refine ⟨_, hC _ _ _ d1, ?_⟩
      refine nx ?_
      refine ⟨_, hC _ _ _ s2, ?_⟩
      refine nx ?_
      refine ⟨_, hC _ _ _ d2, ?_⟩
      refine nx ?_
      refine ⟨_, hC _ _ _ c1, ?_⟩
      refine nx ?_
      first | rw [le_false.2 (by omega)] | rw [lt_false.2 (by omega)] | rw [eq_false'.2 z1'] | rw [ne_false'.2 (by omega)]
      refine nx ?_
      refine ⟨_, hC _ _ _ c2, ?_⟩
      refine nx ?_
      first | rw [le_false.2 (by omega)] | rw [lt_false.2 (by omega)] | rw [eq_false'.2 z2'] | rw [ne_false'.2 (by omega)]
      refine nx ?_
      exact ⟨(3, s), [1050, 1051, 1052, 1053, 1054, 1055, 1056], ⟨by simp only; omega, hst, hs⟩, by simp only; omega, rfl, rfl, rfl⟩
    rw [decide_eq_true hd0] at d1 d2
    rw [clip1, if_neg hd0] at hst
    have qn : Qn (3 * k + 1) (nearR (rv o.z) (rv d.z) (rv b.lo.z) (rv b.hi.z)) := by unfold nearR; split <;> assumption
    have qf : Qn (3 * k + 1) (farR (rv o.z) (rv d.z) (rv b.lo.z) (rv b.hi.z)) := by unfold farR; split <;> assumption
    have m1 := most_good _ _ (Rn_cr.2 hs.f) (Rn_cr.2 qn) (by omega)
    have l1 := least_good _ _ (Rn_cr.2 qf) (Rn_cr.2 qf) (by omega)
    have l2 := least_good _ _ (Rn_cr.2 hs.t) (Rn_cr.2 qf) (by omega)
    simp only [rv_cr] at m1 l1 l2
    have qa := Qn_max hs.f qn
    have qb := Qn_min qf qf
    have qc := Qn_min hs.t qf
    have z := @sI_neg (rv d.z)
    by_cases c : rv d.z < 0
    · have z' := z.2 c
      have en : nearR (rv o.z) (rv d.z) (rv b.lo.z) (rv b.hi.z) = (rv b.hi.z - rv o.z) / rv d.z := if_pos c
      have ef : farR (rv o.z) (rv d.z) (rv b.lo.z) (rv b.hi.z) = (rv b.lo.z - rv o.z) / rv d.z := if_pos c
      rw [← ef] at d1
      rw [← en] at d2
      clear hno z z1 z2 qn qf t1 t2 q1 q2 en ef
      generalize nearR (rv o.z) (rv d.z) (rv b.lo.z) (rv b.hi.z) = nn at *
      generalize farR (rv o.z) (rv d.z) (rv b.lo.z) (rv b.hi.z) = ff at *
      generalize Ψ .cr (rv b.lo.z - rv o.z) = A1 at *
      generalize Ψ .cr (rv b.hi.z - rv o.z) = A2 at *
      generalize Ψ .sI (rv d.z) = i1 at *
      obtain ⟨f, t, op⟩ := s
      simp only at *
      cases op
      all_goals
        refine nx ?_
        refine BrG.yes rfl ?_
        refine nx ?_
        refine ⟨_, hC _ _ _ s1, ?_⟩
        refine nx ?_
        refine ⟨_, hC _ _ _ d1, ?_⟩
        refine nx ?_
        refine ⟨_, hC _ _ _ s2, ?_⟩
        refine nx ?_
        refine ⟨_, hC _ _ _ d2, ?_⟩
        refine nx ?_
        refine ⟨_, hC _ _ _ sg1, ?_⟩
        refine nx ?_
        first | rw [le_true.2 z'] | rw [lt_true.2 z'] | rw [eq_true'.2 z'] | rw [ne_true'.2 z']
        refine nx ?_
        refine ⟨_, hC _ _ _ m1, ?_⟩
        refine nx ?_
      · refine ⟨_, hC _ _ _ l2, ?_⟩
        refine nx ?_
        exact ⟨(3, ⟨_, _, _⟩), [1050, 1051, 1052, 1053, 1054, 1055, 1056], ⟨by simp only; omega, hst, qa, qc⟩, by simp only; omega, rfl, rfl, rfl⟩
      · refine ⟨_, hC _ _ _ l1, ?_⟩
        refine nx ?_
        exact ⟨(3, ⟨_, _, _⟩), [1050, 1051, 1052, 1053, 1054, 1055, 1056], ⟨by simp only; omega, hst, qa, qb⟩, by simp only; omega, rfl, rfl, rfl⟩
    · have z' := mt z.1 c
      have en : nearR (rv o.z) (rv d.z) (rv b.lo.z) (rv b.hi.z) = (rv b.lo.z - rv o.z) / rv d.z := if_neg c
      have ef : farR (rv o.z) (rv d.z) (rv b.lo.z) (rv b.hi.z) = (rv b.hi.z - rv o.z) / rv d.z := if_neg c
      rw [← en] at d1
      rw [← ef] at d2
      clear hno z z1 z2 qn qf t1 t2 q1 q2 en ef
      generalize nearR (rv o.z) (rv d.z) (rv b.lo.z) (rv b.hi.z) = nn at *
      generalize farR (rv o.z) (rv d.z) (rv b.lo.z) (rv b.hi.z) = ff at *
      generalize Ψ .cr (rv b.lo.z - rv o.z) = A1 at *
      generalize Ψ .cr (rv b.hi.z - rv o.z) = A2 at *
      generalize Ψ .sI (rv d.z) = i1 at *
      obtain ⟨f, t, op⟩ := s
      simp only at *
      cases op
      all_goals
        refine nx ?_
        refine BrG.yes rfl ?_
        refine nx ?_
        refine ⟨_, hC _ _ _ s1, ?_⟩
        refine nx ?_
        refine ⟨_, hC _ _ _ d1, ?_⟩
        refine nx ?_
        refine ⟨_, hC _ _ _ s2, ?_⟩
        refine nx ?_
        refine ⟨_, hC _ _ _ d2, ?_⟩
        refine nx ?_
        refine ⟨_, hC _ _ _ sg1, ?_⟩
        refine nx ?_
        first | rw [le_false.2 (by omega)] | rw [lt_false.2 (by omega)] | rw [eq_false'.2 z'] | rw [ne_false'.2 (by omega)]
        refine nx ?_
        refine ⟨_, hC _ _ _ m1, ?_⟩
        refine nx ?_
      · refine ⟨_, hC _ _ _ l2, ?_⟩
        refine nx ?_
        exact ⟨(3, ⟨_, _, _⟩), [1050, 1051, 1052, 1053, 1054, 1055, 1056], ⟨by simp only; omega, hst, qa, qc⟩, by simp only; omega, rfl, rfl, rfl⟩
      · refine ⟨_, hC _ _ _ l1, ?_⟩
        refine nx ?_
        exact ⟨(3, ⟨_, _, _⟩), [1050, 1051, 1052, 1053, 1054, 1055, 1056], ⟨by simp only; omega, hst, qa, qb⟩, by simp only; omega, rfl, rfl, rfl⟩
  · obtain ⟨hl1, hl2⟩ := hlast hN
    have c := rcmp_good _ _ (Rn_cr.2 hs.f) (Rn_cr.2 hs.t) (by omega) (by omega)
    rw [rv_cr, rv_cr] at c
    have z := @cI_pos s.from' s.to'
    obtain ⟨f, t, op⟩ := s
    simp only at *
    cases op
    · by_cases hlt : t < f
      · obtain ⟨e1, e2⟩ := hl1 rfl hlt
        subst e1
        subst e2
        rw [hZ2]
        have z' := z.2 hlt
        clear z hl2
        generalize Ψ .cI f t = i1 at *
        refine nx ?_
        refine BrG.no rfl ?_
        refine nx ?_
        refine ⟨_, hC _ _ _ c, ?_⟩
        refine nx ?_
        first | rw [le_true.2 z'] | rw [lt_true.2 z'] | rw [eq_true'.2 z'] | rw [ne_true'.2 z']
        exact nx trivial
      · obtain ⟨e1, e2⟩ := hl2 (fun q => hlt q.2)
        subst e1
        subst e2
        have z' := mt z.1 hlt
        clear z
        generalize Ψ .cI f t = i1 at *
        refine nx ?_
        refine BrG.no rfl ?_
        refine nx ?_
        refine ⟨_, hC _ _ _ c, ?_⟩
        refine nx ?_
        first | rw [le_false.2 (by omega)] | rw [lt_false.2 (by omega)] | rw [eq_false'.2 z'] | rw [ne_false'.2 (by omega)]
        exact nx trivial
    · obtain ⟨e1, e2⟩ := hl2 (fun q => Bool.noConfusion q.1)
      subst e1
      subst e2
      refine nx ?_
      refine BrG.no rfl ?_
      exact nx trivial
  · exfalso
    simp only at hi
    omega
end Go.K.S
end
section
/-
  Contracts of the reference for naturals: Norm, Same, Of, limb, Cmp, Zero.
-/
namespace Go.K
theorem scat_nil (l : List D) : Ω .scat [] l = l := rfl
theorem imax_ci (a b : Nat) : Ω .imax (Ω .ci a) (Ω .ci b) = Ω .ci (max a b) := by
  simp only [w_imax, w_ci]
  by_cases h : a < b
  · rw [if_pos (by omega), Nat.max_eq_right (by omega)]
  · rw [if_neg (by omega), Nat.max_eq_left (by omega)]
theorem getD_take_drop {l : List Nat} (k : Nat) : nv (l.drop k) = l.getD k 0 + 4294967296 * nv (l.drop (k + 1)) := by
  rcases Nat.lt_or_ge k l.length with h | h
  · rw [nv_drop (List.getElem?_eq_getElem h)]; simp [List.getD, h]
  · rw [List.drop_of_length_le h, List.drop_of_length_le (by omega)]; simp [List.getD, h]
/-- limbs that differ tell which number is less, where all that are higher say the same -/
theorem nv_lt_of' {x y : List Nat} {k : Nat} (hx : lim x) (hd : nv (x.drop (k + 1)) = nv (y.drop (k + 1))) (h : x.getD k 0 < y.getD k 0) : nv x < nv y := by
  have e1 : nv x = nv (x.take k) + 4294967296 ^ k * nv (x.drop k) := by
    rcases Nat.lt_or_ge k x.length with q | q
    · exact nv_split x k (by omega)
    · rw [List.take_of_length_le q, List.drop_of_length_le q]; simp
  have ky : k < y.length := by
    rcases Nat.lt_or_ge k y.length with q | q
    · exact q
    · rw [show y.getD k 0 = 0 by simp [List.getD, q]] at h; omega
  rw [e1, nv_split y k (by omega), getD_take_drop, getD_take_drop k, hd]
  have h1 : nv (x.take k) < 4294967296 ^ k := by
    refine Nat.lt_of_lt_of_le (nv_lt (lim_take hx k)) (Nat.pow_le_pow_right (by omega) ?_)
    rw [List.length_take]; omega
  generalize 4294967296 ^ k = M at *
  generalize nv (y.drop (k + 1)) = d
  have h2 := Nat.mul_le_mul_left M (show x.getD k 0 + 4294967296 * d + 1 ≤ y.getD k 0 + 4294967296 * d by omega)
  rw [Nat.mul_add, Nat.mul_one] at h2
  omega
end Go.K
namespace Go.K.S
open Go Go.K
set_option maxHeartbeats 1000000
set_option linter.unusedVariables false
set_option linter.unusedSimpArgs false

theorem norm1_good (l : List Nat) (h : N l) : Good P F.penumbraref01_Norm [.d (dN Ψ l)] [] (.d (dN Ψ (Ψ .cn (nv l)))) [] := by
  refine G.penumbraref01_Norm fun C C2 hC hC2 => ?_
  have hl := h.lim
  have hb := h.len
  refine nx ?_
  refine LoopG.intro (σ := Nat) [0, 3] [] (fun n => [.d (dN Ψ l), .d (.i .i64 (Ω .ci n))]) (fun _ => []) (fun n => n ≤ l.length ∧ nv (l.take n) = nv l) (fun n => n) l.length [] ⟨Nat.le_refl _, by simp⟩ ⟨rfl, rfl, rfl⟩ ?_
  rintro n ⟨hn, he⟩
  have fin : n = 0 ∨ cano (l.take n) → Ω .ssub (Ψ .lims l) 0 n = Ψ .lims (Ψ .cn (nv l)) := fun h => by
    rw [ssub_lims', List.drop_zero]
    rcases h with rfl | h
    · rw [← he, List.take_zero, nv_nil, cn_zero]
    · have := cn_cano _ (lim_take hl n) h
      rw [he] at this
      rw [this]
  refine nx ?_
  refine BrG.split (fun h => ?_) (fun h => ?_)
  · refine nx ?_
    simp [wz] at h
    obtain ⟨v, hv⟩ : ∃ v, l[n - 1]? = some v := ⟨_, List.getElem?_eq_getElem (by omega)⟩
    refine idx_lims (n - 1) v (wrap_pred h (by omega)) hv rfl ?_
    refine nx ?_
    have hs := nv_take_succ hv
    have hn1 : n - 1 + 1 = n := by omega
    rw [hn1] at hs
    refine BrG.split (fun h => ?_) (fun h => ?_)
    · refine nx ?_
      simp [wz] at h
      refine ⟨n - 1, [], ⟨by omega, by rw [h] at hs; omega⟩, by omega, rfl, ?_, rfl⟩
      rw [← wrap_pred (by omega) (by omega)]; rfl
    · refine nx ?_
      simp [wz] at h
      refine ⟨ci_nonneg _, by simp only [wz]; omega, by simp only [wz]; omega, (by first | exact rfl | exact fun _ => rfl), ?_⟩
      rw [show Ω .nsub n 0 = n from rfl, fin (.inr (by rw [← hn1]; exact cano_take hv h))]
      have hc := len_cn_nv hl
      refine ⟨lims_cells l, lims_cells _, by simp only [wz]; omega, ?_⟩
      rw [scat_nil]
  · refine nx ?_
    simp [wz] at h
    subst h
    rw [show Ω .nsub 0 0 = 0 from rfl, fin (.inl rfl)]
    have hc := len_cn_nv hl
    refine ⟨ci_nonneg _, by simp only [wz]; omega, Int.le_refl _, (by first | exact rfl | exact fun _ => rfl), lims_cells l, lims_cells _, by simp only [wz]; omega, ?_⟩
    rw [scat_nil]

theorem same1_good (a b : List Nat) (hal : a.length < 1099511627776) (hbl : b.length < 1099511627776) : Good P F.penumbraref01_Same [.d (dN Ψ a), .d (dN Ψ b)] [] (.d (.b (decide (a = b)))) [] := by
  refine G.penumbraref01_Same fun C C2 hC hC2 => ?_
  generalize hr : decide (a = b) = r
  refine nx ?_
  refine BrG.split (fun h => ?_) (fun h => ?_)
  · have hne : a.length ≠ b.length := by have := h; simp only [wz] at this ⊢; omega
    have : r = false := by rw [← hr]; exact decide_eq_false (fun q => hne (by rw [q]))
    subst this
    exact nx trivial
  · have he : a.length = b.length := by have := h; simp only [wz] at this ⊢; omega
    refine nx ?_
    refine LoopG.intro (σ := Nat) [0, 1, 5] [] (fun k => [.d (dN Ψ a), .d (dN Ψ b), .d (.i .i64 (Ω .ci k))]) (fun _ => []) (fun k => k ≤ a.length ∧ a.take k = b.take k) (fun k => a.length - k) 0 []
      ⟨Nat.zero_le _, rfl⟩ ⟨rfl, rfl, rfl⟩ ?_
    rintro k ⟨hk, hd⟩
    refine nx ?_
    refine BrG.split (fun h => ?_) (fun h => ?_)
    · have hk0 : k < a.length := by have := h; simp only [wz] at this; omega
      obtain ⟨u, hu⟩ : ∃ u, a[k]? = some u := ⟨_, List.getElem?_eq_getElem (by omega)⟩
      obtain ⟨v, hv⟩ : ∃ v, b[k]? = some v := ⟨_, List.getElem?_eq_getElem (by omega)⟩
      refine nx ?_
      refine idx_lims k u rfl hu rfl ?_
      refine nx ?_
      refine idx_lims k v rfl hv rfl ?_
      refine nx ?_
      refine BrG.split (fun h => ?_) (fun h => ?_)
      · have huv : u ≠ v := by have := h; simp only [wz] at this ⊢; omega
        have : r = false := by
          rw [← hr]
          refine decide_eq_false (fun q => huv ?_)
          rw [q, hv] at hu
          exact (Option.some.inj hu).symm
        subst this
        exact nx trivial
      · have huv : u = v := by have := h; simp only [wz] at this ⊢; omega
        subst huv
        refine nx ?_
        refine ⟨k + 1, [], ⟨hk0, ?_⟩, by omega, rfl, ?_, rfl⟩
        · rw [List.take_add_one, List.take_add_one, hd, hu, hv]
        · refine Eq.trans (b := [V.d (dN Ψ a), V.d (dN Ψ b), V.d (.i .i64 _)]) rfl ?_
          rw [wrap_succ (by omega)]
    · have hk0 : k = a.length := by have := h; simp only [wz] at this; omega
      subst hk0
      have : r = true := by
        rw [← hr]
        refine decide_eq_true ?_
        rw [List.take_length, he, List.take_length] at hd
        exact hd
      subst this
      exact nx trivial

theorem of1_good (n : Nat) (h : n < 18446744073709551616) : Good P F.penumbraref01_Of [.d (.i .u64 (Ω .ci n))] [] (.d (dN Ψ (Ψ .cn n))) [] := by
  refine G.penumbraref01_Of fun C C2 hC hC2 => ?_
  have hl : lim [n % 4294967296, n / 4294967296] := by simp [lim_cons, lim_nil]; omega
  have hv : nv [n % 4294967296, n / 4294967296] = n := by simp; omega
  have hg := norm1_good [n % 4294967296, n / 4294967296] ⟨hl, by simp⟩
  rw [hv] at hg
  refine nx ?_
  rw [ishr32, wrapu32_ci, wrapu32_ci, show n / 4294967296 % 4294967296 = n / 4294967296 by omega]
  refine ⟨_, hC _ _ _ hg, ?_⟩
  exact nx trivial

theorem limb1_good (l : List Nat) (k : Nat) (h : N l) : Good P F.penumbraref01_limb [.d (dN Ψ l), .d (.i .i64 (Ω .ci k))] [] (.d (.i .u64 (Ω .ci (l.getD k 0)))) [] := by
  refine G.penumbraref01_limb fun C C2 hC hC2 => ?_
  have hgl := getD_lt h.lim k
  generalize hr : l.getD k 0 = r at *
  refine nx ?_
  refine BrG.split (fun h => ?_) (fun h => ?_)
  · have hk0 : k < l.length := by have := h; simp only [wz] at this; omega
    have hu : l[k]? = some r := by rw [← hr]; simp [List.getD, hk0]
    refine nx ?_
    refine idx_lims k r rfl hu rfl ?_
    refine nx ?_
    rw [wrapu64_ci, Nat.mod_eq_of_lt (by omega)]
  · have hk0 : l.length ≤ k := by have := h; simp only [wz] at this; omega
    have : r = 0 := by rw [← hr]; simp [List.getD, hk0]
    subst this
    refine nx ?_
    rfl

theorem cmp1_good (a b : List Nat) (ha : N a) (hb : N b) : Good P F.penumbraref01_Cmp [.d (dN Ψ a), .d (dN Ψ b)] [] (.d (.i .i64 (Ψ .cmpI (nv a) (nv b)))) [] := by
  refine G.penumbraref01_Cmp fun C C2 hC hC2 => ?_
  have hal := ha.len
  have hbl := hb.len
  generalize hr : Ψ .cmpI (nv a) (nv b) = r
  obtain ⟨m, hm⟩ : ∃ m, m = max a.length b.length := ⟨_, rfl⟩
  have hma : a.length ≤ m := by omega
  have hmb : b.length ≤ m := by omega
  refine nx ?_
  rw [imax_ci, ← hm]
  refine LoopG.intro (σ := Nat) [0, 1, 5] [] (fun k => [.d (dN Ψ a), .d (dN Ψ b), .d (.i .i64 (Ω .wrap .i64 (Ω .ci k - 1)))]) (fun _ => []) (fun k => k ≤ m ∧ nv (a.drop k) = nv (b.drop k)) (fun k => k) m []
    ⟨Nat.le_refl _, by rw [List.drop_of_length_le hma, List.drop_of_length_le hmb]⟩ ⟨rfl, ?_, rfl⟩ ?_
  · refine Eq.trans (b := [V.d (dN Ψ a), V.d (dN Ψ b), V.d (.i .i64 _)]) rfl ?_
    rfl
  rintro k ⟨hk, hd⟩
  refine nx ?_
  refine BrG.split (fun h => ?_) (fun h => ?_)
  · rw [wrap64 (by simp only [wz]; omega) (by simp only [wz]; omega)] at h
    have hk0 : 0 < k := by have := h; simp only [wz] at this; omega
    obtain ⟨j, rfl⟩ : ∃ j, k = j + 1 := ⟨k - 1, by omega⟩
    have hk1 : Ω .wrap .i64 (Ω .ci (j + 1) - 1) = Ω .ci j := wrap_pred (by omega) (by omega)
    rw [hk1]
    have g1 := limb1_good a j ha
    have g2 := limb1_good b j hb
    have h1 := getD_take_drop (l := a) j
    have h2 := getD_take_drop (l := b) j
    have h3 : a.getD j 0 < b.getD j 0 → nv a < nv b := nv_lt_of' ha.lim hd
    have h4 : b.getD j 0 < a.getD j 0 → nv b < nv a := nv_lt_of' hb.lim hd.symm
    generalize a.getD j 0 = u at *
    generalize b.getD j 0 = v at *
    refine nx ?_
    refine ⟨_, hC _ _ _ g1, ?_⟩
    refine nx ?_
    refine ⟨_, hC _ _ _ g2, ?_⟩
    refine nx ?_
    refine BrG.split (fun h => ?_) (fun h => ?_)
    · have huv : u < v := by have := h; simp only [wz] at this; omega
      have : r = -1 := by rw [← hr]; simp only [p_cmpI, h3 huv, if_true]
      subst this
      exact nx trivial
    · have huv : ¬ u < v := by have := h; simp only [wz] at this; omega
      refine nx ?_
      refine BrG.split (fun h => ?_) (fun h => ?_)
      · have hvu : v < u := by have := h; simp only [wz] at this; omega
        have : r = 1 := by
          have := h4 hvu
          rw [← hr]; simp only [p_cmpI, this, if_true, if_neg (show ¬ nv a < nv b by omega)]
        subst this
        exact nx trivial
      · have hvu : ¬ v < u := by have := h; simp only [wz] at this; omega
        refine nx ?_
        refine ⟨j, [], ⟨by omega, by omega⟩, by omega, rfl, ?_, rfl⟩
        refine Eq.trans (b := [V.d (dN Ψ a), V.d (dN Ψ b), V.d (.i .i64 _)]) rfl ?_
        rfl
  · rw [wrap64 (by simp only [wz]; omega) (by simp only [wz]; omega)] at h
    have hk0 : k = 0 := by have := h; simp only [wz] at this; omega
    subst hk0
    have hab : nv a = nv b := by simpa using hd
    have : r = 0 := by rw [← hr, hab]; simp only [p_cmpI, if_neg (Nat.lt_irrefl _)]
    subst this
    exact nx trivial

theorem zero1_good (a : List Nat) (ha : N a) : Good P F.penumbraref01_Zero [.d (dN Ψ a)] [] (.d (.b (decide (nv a = 0)))) [] := by
  refine G.penumbraref01_Zero fun C C2 hC hC2 => ?_
  generalize hr : decide (nv a = 0) = r
  refine nx ?_
  refine ⟨_, hC _ _ _ (cmp1_good a [] ha N_nil), ?_⟩
  refine nx ?_
  have e : Ω .eq (Ψ .cmpI (nv a) (nv [])) 0 = r := by rw [← hr]; exact decide_eq_decide.2 cmpI_zero
  rw [e]
  cases r
  · exact nx trivial
  · exact nx trivial
end Go.K.S
end
section
/-
  Contracts of the reference for naturals: Add, Sub.
-/
namespace Go.K
theorem tdivB (a : Nat) : (Ω .ci a).tdiv 4294967296 = Ω .ci (a / 4294967296) := tdiv_ci a 4294967296
theorem tmodB (a : Nat) : Ω .tmod (Ω .ci a) 4294967296 = Ω .ci (a % 4294967296) := tmod_ci a 4294967296
theorem tdiv2 (a : Nat) : (Ω .ci a).tdiv 2 = Ω .ci (a / 2) := tdiv_ci a 2
theorem tmod2 (a : Nat) : Ω .tmod (Ω .ci a) 2 = Ω .ci (a % 2) := tmod_ci a 2
end Go.K
namespace Go.K.S
open Go Go.K
set_option maxHeartbeats 2000000
set_option linter.unusedVariables false
set_option linter.unusedSimpArgs false

theorem add1_good (a b : List Nat) (ha : N a) (hb : N b) (hal : a.length < 549755813888) (hbl : b.length < 549755813888) : Good P F.penumbraref01_Add [.d (dN Ψ a), .d (dN Ψ b)] [] (.d (dN Ψ (Ψ .cn (nv a + nv b)))) [] := by
  refine G.penumbraref01_Add fun C C2 hC hC2 => ?_
  obtain ⟨m, hm⟩ : ∃ m, m = max a.length b.length := ⟨_, rfl⟩
  have hma : a.length ≤ m := by omega
  have hmb : b.length ≤ m := by omega
  have hml : m < 549755813888 := by omega
  refine nx ?_
  refine LoopG.intro (σ := Nat × List Nat × Nat) [0, 1, 5, 6, 7] [1050]
      (fun s => [.d (dN Ψ a), .d (dN Ψ b), .own 1050 1, .d (.i .u64 (Ω .ci s.2.2)), .d (.i .i64 (Ω .ci s.1))])
      (fun s => [.row true T.uint32 1 (Ψ .lims s.2.1)])
      (fun s => s.1 ≤ m ∧ s.2.1.length = s.1 ∧ lim s.2.1 ∧ s.2.2 ≤ 1 ∧ nv s.2.1 + 4294967296 ^ s.1 * s.2.2 = nv (a.take s.1) + nv (b.take s.1))
      (fun s => m - s.1) (0, [], 0) [1100] ⟨Nat.zero_le _, rfl, lim_nil, Nat.zero_le _, by simp⟩ ⟨rfl, rfl, rfl⟩ ?_
  rintro ⟨i, z, c⟩ ⟨hi, hzl, hzn, hc, he⟩
  simp only at hi hzl hzn hc he
  have g1 := limb1_good a i ha
  have g2 := limb1_good b i hb
  have h1 := nv_take_succ' a i
  have h2 := nv_take_succ' b i
  have l1 := getD_lt ha.lim i
  have l2 := getD_lt hb.lim i
  generalize a.getD i 0 = u at *
  generalize b.getD i 0 = v at *
  have fin : i + 1 ≤ m → (i + 1 ≤ m ∧ (z ++ [(u + v + c) % 4294967296]).length = i + 1 ∧ lim (z ++ [(u + v + c) % 4294967296]) ∧ (u + v + c) / 4294967296 ≤ 1 ∧
          nv (z ++ [(u + v + c) % 4294967296]) + 4294967296 ^ (i + 1) * ((u + v + c) / 4294967296) = nv (a.take (i + 1)) + nv (b.take (i + 1))) := fun hi2 => by
    refine ⟨hi2, by simp [hzl], lim_append.2 ⟨hzn, by simp [lim_cons, lim_nil]; omega⟩, by omega, ?_⟩
    rw [nv_snoc, hzl, h1, h2, Nat.pow_succ]
    exact add_step he
  refine nx ?_
  refine BrG.split (fun h => ?_) (fun h => ?_)
  focus
    have hi2 : i + 1 ≤ m := by have := h; simp only [wz] at this; omega
    refine nx ?_
  rotate_left
  focus
    have hia : a.length ≤ i := by have := h; simp only [wz] at this; omega
    refine nx ?_
    refine BrG.split (fun h => ?_) (fun h => ?_)
    focus
      have hi2 : i + 1 ≤ m := by have := h; simp only [wz] at this; omega
      refine nx ?_
    rotate_left
    focus
      have hi2 : i = m := by have := h; simp only [wz] at this; omega
      subst hi2
      rw [List.take_of_length_le hma, List.take_of_length_le hmb, ← hzl, ← nv_snoc] at he
      have hg := norm1_good (z ++ [c]) ⟨lim_append.2 ⟨hzn, by simp [lim_cons, lim_nil]; omega⟩, by simp; omega⟩
      rw [he] at hg
      refine nx ?_
      rw [wrapu32_ci, Nat.mod_eq_of_lt (by omega)]
      refine ⟨cells_one _ _, (by simp only [wz]; omega), ?_⟩
      rw [scat_snoc]
      refine ⟨_, hC _ _ _ hg, ?_⟩
      exact nx trivial
  all_goals
    refine ⟨_, hC _ _ _ g1, ?_⟩
    refine nx ?_
    refine ⟨_, hC _ _ _ g2, ?_⟩
    refine nx ?_
    have hw : Ω .wrap .u64 (Ω .wrap .u64 (Ω .ci u + Ω .ci v) + Ω .ci c) = Ω .ci (u + v + c) := by
      rw [ci_add, wrapu64_ci, ci_add, wrapu64_ci, Nat.mod_eq_of_lt (by omega), Nat.mod_eq_of_lt (by omega)]
    rw [hw, tmodB, tdivB, wrapu32_ci, Nat.mod_mod, wrapu64_ci, Nat.mod_eq_of_lt (show (u + v + c) / 4294967296 < 18446744073709551616 by omega)]
    refine ⟨cells_one _ _, (by simp only [wz]; omega), (i + 1, z ++ [(u + v + c) % 4294967296], (u + v + c) / 4294967296), [1705], fin hi2, by simp only; omega, rfl, ?_, ?_⟩
    · refine Eq.trans (b := [.d (dN Ψ a), .d (dN Ψ b), .own 1050 1, .d (.i .u64 (Ω .ci _)), .d (.i .i64 _)]) rfl ?_
      rw [wrap_succ (by omega)]
    · refine Eq.trans (b := [.row true T.uint32 1 _]) rfl ?_
      rw [scat_snoc]

theorem sub1_good (a b : List Nat) (ha : N a) (hb : N b) (hal : a.length < 549755813888) (h : nv b ≤ nv a) : Good P F.penumbraref01_Sub [.d (dN Ψ a), .d (dN Ψ b)] [] (.tup [.d (dN Ψ (Ψ .cn (nv a - nv b))), .d (.b true)]) [] := by
  refine G.penumbraref01_Sub fun C C2 hC hC2 => ?_
  refine nx ?_
  refine ⟨_, hC _ _ _ (cmp1_good a b ha hb), ?_⟩
  refine nx ?_
  refine BrG.split (fun h => ?_) (fun h => ?_)
  · have := cmpI_neg.1 (of_decide_eq_true h)
    omega
  refine nx ?_
  refine LoopG.intro (σ := Nat × List Nat × Nat) [0, 1, 6, 7, 8] [1050]
      (fun s => [.d (dN Ψ a), .d (dN Ψ b), .own 1050 1, .d (.i .u64 (Ω .ci s.2.2)), .d (.i .i64 (Ω .ci s.1))])
      (fun s => [.row true T.uint32 1 (Ψ .lims s.2.1)])
      (fun s => s.1 ≤ a.length ∧ s.2.1.length = s.1 ∧ lim s.2.1 ∧ s.2.2 ≤ 1 ∧ nv s.2.1 + nv (b.take s.1) = nv (a.take s.1) + 4294967296 ^ s.1 * s.2.2)
      (fun s => a.length - s.1) (0, [], 0) [1300] ⟨Nat.zero_le _, rfl, lim_nil, Nat.zero_le _, by simp⟩ ⟨rfl, rfl, rfl⟩ ?_
  rintro ⟨i, z, c⟩ ⟨hi, hzl, hzn, hc, he⟩
  simp only at hi hzl hzn hc he
  have g1 := limb1_good a i ha
  have g2 := limb1_good b i hb
  have h1 := nv_take_succ' a i
  have h2 := nv_take_succ' b i
  have l1 := getD_lt ha.lim i
  have l2 := getD_lt hb.lim i
  generalize a.getD i 0 = u at *
  generalize b.getD i 0 = v at *
  refine nx ?_
  refine BrG.split (fun h => ?_) (fun h => ?_)
  · have hi2 : i + 1 ≤ a.length := by have := h; simp only [wz] at this; omega
    refine nx ?_
    refine ⟨_, hC _ _ _ g1, ?_⟩
    refine nx ?_
    refine ⟨_, hC _ _ _ g2, ?_⟩
    refine nx ?_
    obtain ⟨d, hd⟩ : ∃ d, d = 4294967296 + u - v - c := ⟨_, rfl⟩
    have hw : Ω .wrap .u64 (Ω .wrap .u64 (Ω .wrap .u64 (4294967296 + Ω .ci u) - Ω .ci v) - Ω .ci c) = Ω .ci d := by
      rw [wrapu64, wrapu64, wrapu64]; simp only [wz]; omega
    have hq : d / 4294967296 ≤ 1 := by omega
    have hb2 : Ω .wrap .u64 (1 - Ω .wrap .u64 (Ω .ci (d / 4294967296))) = Ω .ci (1 - d / 4294967296) := by
      rw [wrapu64, wrapu64]; simp only [wz]; omega
    rw [hw, tmodB, tdivB, wrapu32_ci, Nat.mod_mod]
    refine ⟨cells_one _ _, (by simp only [wz]; omega), (i + 1, z ++ [d % 4294967296], 1 - d / 4294967296), [1905], ⟨hi2, by simp [hzl], lim_append.2 ⟨hzn, by simp [lim_cons, lim_nil]; omega⟩, by simp only; omega, ?_⟩, by simp only; omega, rfl, ?_, ?_⟩
    · simp only
      rw [nv_snoc, hzl, h1, h2, Nat.pow_succ]
      have := sub_step (d := d % 4294967296) (c' := 1 - d / 4294967296) (x := u) (y := v) he (by omega)
      omega
    · refine Eq.trans (b := [.d (dN Ψ a), .d (dN Ψ b), .own 1050 1, .d (.i .u64 _), .d (.i .i64 _)]) rfl ?_
      rw [wrap_succ (by omega), hb2]
    · refine Eq.trans (b := [.row true T.uint32 1 _]) rfl ?_
      rw [scat_snoc]
  · have hi2 : i = a.length := by have := h; simp only [wz] at this; omega
    subst hi2
    rw [List.take_length] at he
    have hbs : nv b = nv (b.take a.length) := by
      rcases Nat.lt_or_ge a.length b.length with q | q
      · have h3 := nv_split b a.length (by omega)
        have h4 := nv_lt ha.lim
        rcases Nat.eq_zero_or_pos (nv (b.drop a.length)) with q0 | q0
        · rw [q0] at h3; omega
        · have := Nat.mul_le_mul_left (4294967296 ^ a.length) q0
          omega
      · rw [List.take_of_length_le q]
    have hzl' := nv_lt hzn
    rw [hzl] at hzl'
    have hc0 : c = 0 := by
      rcases Nat.eq_zero_or_pos c with q | q
      · exact q
      · have : c = 1 := by omega
        subst this
        omega
    subst hc0
    have hz : nv z = nv a - nv b := by omega
    have hg := norm1_good z ⟨hzn, by omega⟩
    rw [hz] at hg
    refine nx ?_
    refine ⟨_, hC _ _ _ hg, ?_⟩
    exact nx trivial
end Go.K.S
end
section
/-
  Contract of the reference for naturals: Mul.
-/
namespace Go.K.S
open Go Go.K
set_option maxHeartbeats 2000000
set_option linter.unusedVariables false
set_option linter.unusedSimpArgs false

theorem mul1_good (p q : List Nat) (ha : N p) (hb : N q) (hpl : p.length < 274877906944) (hql : q.length < 274877906944) : Good P F.penumbraref01_Mul [.d (dN Ψ p), .d (dN Ψ q)] [] (.d (dN Ψ (Ψ .cn (nv p * nv q)))) [] := by
  refine G.penumbraref01_Mul fun C C2 hC hC2 => ?_
  have hpn := ha.lim
  have hqn := hb.lim
  refine nx ?_
  rw [wrap_add (by omega), wrap_succ (by omega)]
  refine ⟨ci_nonneg _, Int.le_refl _, by simp only [wz]; omega, by simp only [wz]; omega, ?_⟩
  refine LoopG.intro (σ := Nat × List Nat) [0, 1, 5, 6] [1050]
    (fun s => [.d (dN Ψ p), .d (dN Ψ q), .own 1050 1, .d (.i .i64 (Ω .ci s.1))])
    (fun s => [.row true T.uint32 1 (Ψ .lims s.2)])
    (fun s => s.1 ≤ p.length ∧ s.2.length = p.length + q.length + 1 ∧ lim s.2 ∧ nv (s.2.drop (s.1 + q.length)) = 0 ∧ nv (s.2.take (s.1 + q.length)) = nv (p.take s.1) * nv q)
    (fun s => p.length - s.1) (0, List.replicate (p.length + q.length + 1) 0) [1106] ⟨Nat.zero_le _, by simp, lim_rep _, by simp only [List.drop_replicate, nv_rep], by simp [nv_rep]⟩ ⟨rfl, rfl, ?_⟩ ?_
  · refine Eq.trans (b := [.row true T.uint32 1 _]) rfl ?_
    rw [← srep_lims]
    rfl
  rintro ⟨i, z⟩ ⟨hi, hzl, hzn, hz0, he⟩
  simp only at hi hzl hzn hz0 he
  refine nx ?_
  refine BrG.split (fun h => ?_) (fun h => ?_)
  · have hi2 : i < p.length := by have := h; simp only [wz] at this; omega
    obtain ⟨u, hu⟩ : ∃ u, p[i]? = some u := ⟨_, List.getElem?_eq_getElem hi2⟩
    have hul := lim_get hpn hu
    refine nx ?_
    refine LoopG.intro (σ := Nat × List Nat × Nat) [0, 1, 5, 6, 7, 8] [1051]
      (fun s => [.d (dN Ψ p), .d (dN Ψ q), .own 1051 1, .d (.i .i64 (Ω .ci i)), .d (.i .u64 (Ω .ci s.2.2)), .d (.i .i64 (Ω .ci s.1))])
      (fun s => [.row true T.uint32 1 (Ψ .lims s.2.1)])
      (fun s => s.1 ≤ q.length ∧ s.2.1.length = p.length + q.length + 1 ∧ lim s.2.1 ∧ s.2.2 < 4294967296 ∧ s.2.1.drop (i + q.length) = z.drop (i + q.length) ∧ nv (s.2.1.take (i + q.length)) + 4294967296 ^ (i + s.1) * s.2.2 = nv (z.take (i + q.length)) + 4294967296 ^ i * u * nv (q.take s.1))
      (fun s => q.length - s.1) (0, z, 0) [1050] ⟨Nat.zero_le _, hzl, hzn, by simp only; omega, rfl, by simp⟩ ⟨rfl, rfl, rfl⟩ ?_
    rintro ⟨k, w, c⟩ ⟨hk, hwl, hwn, hc, hwd, hw⟩
    simp only at hk hwl hwn hc hwd hw
    refine nx ?_
    refine BrG.split (fun h => ?_) (fun h => ?_)
    · have hk2 : k < q.length := by have := h; simp only [wz] at this; omega
      obtain ⟨v, hv⟩ : ∃ v, q[k]? = some v := ⟨_, List.getElem?_eq_getElem hk2⟩
      obtain ⟨o, ho⟩ : ∃ o, w[i + k]? = some o := ⟨_, List.getElem?_eq_getElem (by omega)⟩
      have hvl := lim_get hqn hv
      have hol := lim_get hwn ho
      refine nx ?_
      refine idx_lims i u rfl hu rfl ?_
      refine nx ?_
      refine idx_lims k v rfl hv rfl ?_
      refine nx ?_
      have hix : Ω .wrap .i64 (Ω .ci i + Ω .ci k) = Ω .ci (i + k) := wrap_add (by omega)
      refine own_lims (i + k) o hix ho ?_ ?_ ?_
      · exact Nat.le_refl _
      · exact rfl
      refine nx ?_
      rw [hix, wrapu64_ci, wrapu64_ci, wrapu64_ci, ci_mul, wrapu64_ci, ci_add, wrapu64_ci, ci_add, wrapu64_ci]
      have hfit := mul_fits hul hvl hol hc
      have ht : ((u % 18446744073709551616 * (v % 18446744073709551616) % 18446744073709551616 + o % 18446744073709551616) % 18446744073709551616 + c) % 18446744073709551616 = u * v + o + c := by
        rw [Nat.mod_eq_of_lt (show u < 18446744073709551616 by omega), Nat.mod_eq_of_lt (show v < 18446744073709551616 by omega)]
        omega
      rw [ht, tmodB, tdivB]
      refine ⟨ci_nonneg _, by simp only [wz]; omega, by simp only [wz]; omega, (k + 1, w.set (i + k) ((u * v + o + c) % 4294967296), (u * v + o + c) / 4294967296), [1051], ⟨hk2, by simp [hwl], lim_set hwn _ (by omega), by simp only; omega, ?_, ?_⟩, by simp only; omega, rfl, ?_, ?_⟩
      · simp only
        rw [List.drop_set_of_lt (by omega), hwd]
      · simp only
        rw [List.take_set, nv_take_succ hv]
        have ho' : (w.take (i + q.length))[i + k]? = some o := by rw [List.getElem?_take, if_pos (by omega)]; exact ho
        have hz := nv_set ho' ((u * v + o + c) % 4294967296)
        have := mul_step (b := 4294967296 ^ i) (B' := 4294967296 ^ k) (M := 4294967296 ^ (i + k)) rfl hw hz ⟨_, Nat.pow_add _ _ _⟩ (Nat.pow_add _ _ _)
        rw [show i + (k + 1) = (i + k) + 1 by omega, Nat.pow_succ]
        exact this
      · refine Eq.trans (b := [.d (dN Ψ p), .d (dN Ψ q), .own 1051 1, .d (.i .i64 (Ω .ci i)), .d (.i .u64 _), .d (.i .i64 _)]) rfl ?_
        rw [wrap_succ (by omega), wrapu64_ci, Nat.mod_eq_of_lt (Nat.lt_of_le_of_lt (Nat.div_le_self _ _) hfit)]
      · refine Eq.trans (b := [.row true T.uint32 1 _]) rfl ?_
        rw [tn_ci, wrapu32_ci, Nat.mod_mod, sset_lims]
    · have hk2 : k = q.length := by have := h; simp only [wz] at this; omega
      subst hk2
      refine nx ?_
      rw [wrap_add (by omega)]
      rw [List.take_length] at hw
      obtain ⟨o, ho⟩ : ∃ o, w[i + q.length]? = some o := ⟨_, List.getElem?_eq_getElem (by omega)⟩
      refine ⟨ci_nonneg _, by simp only [wz]; omega, by simp only [wz]; omega, (i + 1, w.set (i + q.length) c, ), [1051], ⟨hi2, by simp [hwl], lim_set hwn _ hc, ?_, ?_⟩, by simp only; omega, rfl, ?_, ?_⟩
      · simp only
        rw [List.drop_set_of_lt (by omega), show i + 1 + q.length = (i + q.length) + 1 by omega, ← List.drop_drop, hwd, List.drop_drop]
        have := nv_drop (l := z) (k := i + q.length) (v := z[i + q.length]'(by omega)) (List.getElem?_eq_getElem (by omega))
        omega
      · simp only
        have ho' : (w.set (i + q.length) c)[i + q.length]? = some c := by
          have := (List.getElem?_eq_some_iff.1 ho).1
          simp [this]
        rw [show i + 1 + q.length = (i + q.length) + 1 by omega, nv_take_succ ho', List.take_set_of_le (Nat.le_refl _), hw, he, nv_take_succ hu, Nat.add_mul]
      · refine Eq.trans (b := [.d (dN Ψ p), .d (dN Ψ q), .own 1050 1, .d (.i .i64 _)]) rfl ?_
        rw [wrap_succ (by omega)]
      · refine Eq.trans (b := [.row true T.uint32 1 _]) rfl ?_
        rw [tn_ci, wrapu32_ci, Nat.mod_eq_of_lt hc, sset_lims]
  · have hi2 : i = p.length := by have := h; simp only [wz] at this; omega
    subst hi2
    have hall : nv z = nv p * nv q := by
      have := nv_split z (p.length + q.length) (by omega)
      rw [hz0, he, List.take_length, Nat.mul_zero, Nat.add_zero] at this
      exact this
    have hg := norm1_good z ⟨hzn, by omega⟩
    rw [hall] at hg
    refine nx ?_
    refine ⟨_, hC _ _ _ hg, ?_⟩
    exact nx trivial
end Go.K.S
end
section
/-
  Contracts of the reference for naturals: Double, Half, at.
-/
namespace Go.K
theorem double_step {M zv c X x : Nat} (h : zv + M * c = 2 * X) : zv + M * ((2 * x + c) % 4294967296) + M * 4294967296 * ((2 * x + c) / 4294967296) = 2 * (X + M * x) := by
  have h1 := Nat.mod_add_div (2 * x + c) 4294967296
  have h2 : M * ((2 * x + c) % 4294967296) + M * 4294967296 * ((2 * x + c) / 4294967296) = M * (2 * x + c) := by
    rw [Nat.mul_assoc, ← Nat.mul_add, h1]
  rw [Nat.add_assoc, h2, Nat.mul_add, Nat.mul_left_comm]
  omega
/-- half of all limbs, each with the lowest bit of the next one -/
theorem half_drop (l : List Nat) (k : Nat) : nv (l.drop k) / 2 = (nv (l.drop (k + 1)) % 2 * 4294967296 + l.getD k 0) / 2 + 4294967296 * (nv (l.drop (k + 1)) / 2) := by
  rw [getD_take_drop k]
  omega
theorem mod2_drop (l : List Nat) (k : Nat) : nv (l.drop k) % 2 = l.getD k 0 % 2 := by
  rw [getD_take_drop k]
  omega
end Go.K
namespace Go.K.S
open Go Go.K
set_option maxHeartbeats 2000000
set_option linter.unusedVariables false
set_option linter.unusedSimpArgs false

theorem double1_good (a : List Nat) (ha : N a) (hal : a.length < 549755813888) : Good P F.penumbraref01_Double [.d (dN Ψ a), .d (.b false)] [] (.d (dN Ψ (Ψ .cn (2 * nv a)))) [] := by
  refine G.penumbraref01_Double fun C C2 hC hC2 => ?_
  have han := ha.lim
  refine nx ?_
  refine LoopG.intro (σ := Nat × List Nat × Nat) [0, 5, 6, 7] [1050]
      (fun s => [.d (dN Ψ a), .own 1050 1, .d (.i .u64 (Ω .ci s.2.2)), .d (.i .i64 (Ω .ci s.1))])
      (fun s => [.row true T.uint32 1 (Ψ .lims s.2.1)])
      (fun s => s.1 ≤ a.length ∧ s.2.1.length = s.1 ∧ lim s.2.1 ∧ s.2.2 ≤ 1 ∧ nv s.2.1 + 4294967296 ^ s.1 * s.2.2 = 2 * nv (a.take s.1))
      (fun s => a.length - s.1) (0, [], 0) [1100] ⟨Nat.zero_le _, rfl, lim_nil, Nat.zero_le _, by simp⟩ ⟨rfl, rfl, rfl⟩ ?_
  rintro ⟨i, z, c⟩ ⟨hi, hzl, hzn, hc, he⟩
  simp only at hi hzl hzn hc he
  refine nx ?_
  refine BrG.split (fun h => ?_) (fun h => ?_)
  · have hi2 : i < a.length := by have := h; simp only [wz] at this; omega
    obtain ⟨u, hu⟩ : ∃ u, a[i]? = some u := ⟨_, List.getElem?_eq_getElem hi2⟩
    have hul := lim_get han hu
    refine nx ?_
    refine idx_lims i u rfl hu rfl ?_
    refine nx ?_
    have hw : Ω .wrap .u64 (Ω .wrap .u64 (2 * Ω .wrap .u64 (Ω .ci u)) + Ω .ci c) = Ω .ci (2 * u + c) := by
      rw [wrapu64_ci, wrapu64, wrapu64]; simp only [wz]; omega
    rw [hw, tmodB, tdivB, wrapu32_ci, Nat.mod_mod]
    refine ⟨cells_one _ _, (by simp only [wz]; omega), (i + 1, z ++ [(2 * u + c) % 4294967296], (2 * u + c) / 4294967296), [1905], ⟨hi2, by simp [hzl], lim_append.2 ⟨hzn, by simp [lim_cons, lim_nil]; omega⟩, by simp only; omega, ?_⟩, by simp only; omega, rfl, ?_, ?_⟩
    · simp only
      rw [nv_snoc, hzl, nv_take_succ hu, Nat.pow_succ]
      exact double_step he
    · refine Eq.trans (b := [.d (dN Ψ a), .own 1050 1, .d (.i .u64 _), .d (.i .i64 _)]) rfl ?_
      rw [wrap_succ (by omega), wrapu64_ci, Nat.mod_eq_of_lt (show (2 * u + c) / 4294967296 < 18446744073709551616 by omega)]
    · refine Eq.trans (b := [.row true T.uint32 1 _]) rfl ?_
      rw [scat_snoc]
  · have hi2 : i = a.length := by have := h; simp only [wz] at this; omega
    subst hi2
    rw [List.take_length, ← hzl, ← nv_snoc] at he
    have hg := norm1_good (z ++ [c]) ⟨lim_append.2 ⟨hzn, by simp [lim_cons, lim_nil]; omega⟩, by simp; omega⟩
    rw [he] at hg
    refine nx ?_
    rw [wrapu32_ci, Nat.mod_eq_of_lt (show c < 4294967296 by omega)]
    refine ⟨cells_one _ _, (by simp only [wz]; omega), ?_⟩
    rw [scat_snoc]
    refine ⟨_, hC _ _ _ hg, ?_⟩
    exact nx trivial

theorem half1_good (a : List Nat) (ha : N a) : Good P F.penumbraref01_Half [.d (dN Ψ a)] [] (.d (dN Ψ (Ψ .cn (nv a / 2)))) [] := by
  refine G.penumbraref01_Half fun C C2 hC hC2 => ?_
  have han := ha.lim
  have hal := ha.len
  refine nx ?_
  refine LoopG.intro (σ := Nat × List Nat) [0, 3, 4] [1050]
      (fun s => [.d (dN Ψ a), .own 1050 1, .d (.i .i64 (Ω .ci s.1))])
      (fun s => [.row true T.uint32 1 (Ψ .lims s.2)])
      (fun s => s.1 ≤ a.length ∧ s.2.length = s.1 ∧ lim s.2 ∧ nv s.2 + 4294967296 ^ s.1 * (nv (a.drop s.1) / 2) = nv a / 2)
      (fun s => a.length - s.1) (0, []) [1100] ⟨Nat.zero_le _, rfl, lim_nil, by simp⟩ ⟨rfl, rfl, rfl⟩ ?_
  rintro ⟨i, z⟩ ⟨hi, hzl, hzn, he⟩
  simp only at hi hzl hzn he
  refine nx ?_
  refine BrG.split (fun h => ?_) (fun h => ?_)
  · have hi2 : i < a.length := by have := h; simp only [wz] at this; omega
    obtain ⟨u, hu⟩ : ∃ u, a[i]? = some u := ⟨_, List.getElem?_eq_getElem hi2⟩
    have hul := lim_get han hu
    have hud : a.getD i 0 = u := by simp [List.getD, hu]
    have g1 := limb1_good a (i + 1) ha
    have hhd := half_drop a i
    rw [mod2_drop, hud] at hhd
    have l1 := getD_lt han (i + 1)
    generalize a.getD (i + 1) 0 = v at *
    obtain ⟨x, hx⟩ : ∃ x, x = (v % 2 * 4294967296 + u) / 2 := ⟨_, rfl⟩
    rw [← hx] at hhd
    refine nx ?_
    rw [wrap_succ (by omega)]
    refine ⟨_, hC _ _ _ g1, ?_⟩
    refine nx ?_
    refine idx_lims i u rfl hu rfl ?_
    refine nx ?_
    have hw : Ω .wrap .u64 (Ω .wrap .u64 (Ω .tmod (Ω .ci v) 2 * 4294967296) + Ω .wrap .u64 (Ω .ci u)) = Ω .ci (v % 2 * 4294967296 + u) := by
      rw [tmod2, wrapu64_ci, wrapu64, wrapu64]; simp only [wz]; omega
    rw [hw, tdiv2, ← hx, wrapu64_ci, wrapu32_ci, Nat.mod_eq_of_lt (show x < 18446744073709551616 by omega), Nat.mod_eq_of_lt (show x < 4294967296 by omega)]
    refine ⟨cells_one _ _, (by simp only [wz]; omega), (i + 1, z ++ [x]), [1516], ⟨hi2, by simp [hzl], lim_append.2 ⟨hzn, by simp [lim_cons, lim_nil]; omega⟩, ?_⟩, by simp only; omega, rfl, ?_, ?_⟩
    · simp only
      rw [nv_snoc, hzl, Nat.pow_succ, Nat.mul_assoc, Nat.add_assoc, ← Nat.mul_add, ← hhd]
      exact he
    · refine Eq.trans (b := [.d (dN Ψ a), .own 1050 1, .d (.i .i64 _)]) rfl ?_
      rw [wrap_succ (by omega)]
    · refine Eq.trans (b := [.row true T.uint32 1 _]) rfl ?_
      rw [scat_snoc]
  · have hi2 : i = a.length := by have := h; simp only [wz] at this; omega
    subst hi2
    rw [List.drop_length] at he
    have hg := norm1_good z ⟨hzn, by omega⟩
    rw [show nv z = nv a / 2 by simpa using he] at hg
    refine nx ?_
    refine ⟨_, hC _ _ _ hg, ?_⟩
    exact nx trivial

theorem at1_good (x k : Nat) (hx : x < 18446744073709551616) (hk : k < 549755813888) : Good P F.penumbraref01_at [.d (.i .u64 (Ω .ci x)), .d (.i .i64 (Ω .ci k))] []
    (.d (dN Ψ (List.replicate k 0 ++ [x % 4294967296, x / 4294967296]))) [] := by
  refine G.penumbraref01_at fun C C2 hC hC2 => ?_
  obtain ⟨R, hR⟩ : ∃ R, R = List.replicate k 0 ++ [x % 4294967296, x / 4294967296] := ⟨_, rfl⟩
  rw [← hR]
  refine nx ?_
  rw [tmodB, tdivB, wrapu64_ci, wrapu32_ci, wrapu32_ci, Nat.mod_mod, Nat.mod_eq_of_lt (show x / 4294967296 < 18446744073709551616 by omega), Nat.mod_eq_of_lt (show x / 4294967296 < 4294967296 by omega)]
  refine ⟨ci_nonneg _, Int.le_refl _, by simp only [wz]; omega, by simp only [wz]; omega, ?_⟩
  rw [srep_lims, slen_lims, List.length_replicate]
  refine ⟨fun u hu => by simp only [List.mem_cons, List.not_mem_nil, or_false] at hu; rcases hu with rfl | rfl <;> rfl, (by simp only [wz]; omega), ?_⟩
  rw [lims_nil, lims_cons, lims_cons, scat_lims, hR]
end Go.K.S
end
section
/-
  Contracts of the references for naturals: DivMod, Gcd.
-/
namespace Go.K
theorem tdiv_lit64 (a b : Nat) : (Ω .ci a).tdiv (Ω .ci b) = Ω .ci (a / b) := tdiv_ci a b
/-- what stands at a place -/
theorem nv_at (k x : Nat) : nv (List.replicate k 0 ++ [x % 4294967296, x / 4294967296]) = 4294967296 ^ k * x := by
  rw [nv_append, nv_rep, List.length_replicate, Nat.zero_add]
  congr 1
  simp only [nv_cons, nv_nil]
  omega
/-- a number of times that is not too great -/
theorem times_ok {L D t top M x M' K : Nat} (hL : M * x ≤ L) (hD : D < M' * top) (hK : M' * K = M) (ht : t * top ≤ x) : K * t * D ≤ L := by
  have h1 : K * t * D ≤ K * t * (M' * top) := Nat.mul_le_mul_left _ (Nat.le_of_lt hD)
  have h2 : K * t * (M' * top) = M * (t * top) := by rw [← hK]; ac_rfl
  have h3 := Nat.mul_le_mul_left M ht
  omega
theorem div_inv {q D k t L A : Nat} (h : q * D + L = A) (hle : k * t * D ≤ L) : (q + k * t) * D + (L - k * t * D) = A := by
  rw [Nat.add_mul]; omega
theorem halves (L n : Nat) : L / 2 ^ n / 2 = L / 2 ^ (n + 1) := by rw [Nat.div_div_eq_div_mul, Nat.pow_succ]
end Go.K
namespace Go.K.S
open Go Go.K
set_option maxHeartbeats 8000000
set_option maxRecDepth 20000
set_option linter.unusedVariables false
set_option linter.unusedSimpArgs false

theorem divmod1_good (a b : List Nat) (ha : N a) (hb : N b) (hal : a.length < 137438953472) (hbl : b.length < 137438953472) (hb0 : nv b ≠ 0) :
    Good P F.penumbraref01_DivMod [.d (dN Ψ a), .d (dN Ψ b)] [] (.tup [.d (dN Ψ (Ψ .cn (nv a / nv b))), .d (dN Ψ (Ψ .cn (nv a % nv b))), .d (.b true)]) [] := by
  refine G.penumbraref01_DivMod fun C C2 hC hC2 => ?_
  have g1 := zero1_good b hb
  rw [decide_eq_false hb0] at g1
  have g2 := norm1_good b hb
  have g3 := norm1_good a ha
  obtain ⟨m0, hm0⟩ : ∃ m, m = 137438953473 := ⟨_, rfl⟩
  have hB0 : nv b < 4294967296 ^ b.length := nv_lt hb.lim
  have hA0 : nv a < 4294967296 ^ a.length := nv_lt ha.lim
  generalize nv a = X at *
  obtain ⟨Y, hY⟩ : ∃ Y, Y = nv b := ⟨_, rfl⟩
  rw [← hY] at g2 hB0 hb0 ⊢
  refine nx ?_
  refine ⟨_, hC _ _ _ g1, ?_⟩
  refine nx ?_
  refine ⟨_, hC _ _ _ g2, ?_⟩
  refine nx ?_
  refine ⟨_, hC _ _ _ g3, ?_⟩
  refine nx ?_
  -- the first loop: both are doubled
  refine LoopG.intro (σ := Nat × Nat) [7, 8, 9] []
      (fun s => [.d (dN Ψ (Ψ .cn (Y * 2 ^ s.1))), .d (dN Ψ (Ψ .cn (X * 2 ^ s.1))), .d (.i .i64 (Ω .ci s.1))])
      (fun _ => [])
      (fun s => s.2 = s.1 ∧ (Ψ .cn (Y * 2 ^ s.1)).length = (Ψ .cn Y).length ∧ s.1 ≤ 32)
      (fun s => 32 - s.1) (0, 0) [] ⟨rfl, by simp, by simp⟩ ⟨rfl, ?_, rfl⟩ ?_
  · simp only [Nat.pow_zero, Nat.mul_one]
    rfl
  rintro ⟨s, s'⟩ ⟨hs', hYl, hs⟩
  simp only at hs' hYl hs
  have hD0 : Y * 2 ^ s ≠ 0 := Nat.mul_ne_zero hb0 (Nat.ne_of_gt (Nat.pow_pos (by omega)))
  have hdiv : ∀ q L, q * (Y * 2 ^ s) + L = X * 2 ^ s → L < Y * 2 ^ s → X / Y = q ∧ L / 2 ^ s = X % Y := fun q L h1 h2 => by
    obtain ⟨e1, e2⟩ := divmod_unique h1 h2
    have hp2 : 0 < 2 ^ s := Nat.pow_pos (by omega)
    rw [Nat.mul_div_mul_right _ _ hp2] at e1
    rw [Nat.mul_mod_mul_right] at e2
    exact ⟨e1, by rw [← e2, Nat.mul_div_cancel _ hp2]⟩
  have hdY : ∀ s, Y * 2 ^ (s + 1) = 2 * (Y * 2 ^ s) := fun s => by rw [Nat.pow_succ]; ac_rfl
  have hdX : X * 2 ^ (s + 1) = 2 * (X * 2 ^ s) := by rw [Nat.pow_succ]; ac_rfl
  have hYl0 : (Ψ .cn Y).length ≤ b.length := len_cn.2 hB0
  have hLl : (Ψ .cn (X * 2 ^ s)).length ≤ a.length + 1 := by
    refine len_cn.2 ?_
    have h2 : 2 ^ s ≤ 4294967296 := Nat.pow_le_pow_right (n := 2) (by omega) hs
    rw [Nat.pow_succ]
    exact Nat.lt_of_lt_of_le (Nat.mul_lt_mul_of_pos_right hA0 (Nat.pow_pos (by omega))) (Nat.mul_le_mul_left _ h2)
  obtain ⟨D, hD⟩ : ∃ D, D = Y * 2 ^ s := ⟨_, rfl⟩
  obtain ⟨L0, hL0⟩ : ∃ L, L = X * 2 ^ s := ⟨_, rfl⟩
  rw [← hD] at hD0 hYl hdiv ⊢
  rw [← hL0] at hdiv hdX hLl ⊢
  have hdYs := hdY s
  rw [← hD] at hdYs
  obtain ⟨x, m, hlen, hx, hx0, hxl, hup, hlo, hsp⟩ := cn_top hD0
  have gD := double1_good (Ψ .cn D) ⟨lim_cn _, by omega⟩ (by omega)
  have gL := double1_good (Ψ .cn L0) ⟨lim_cn _, by omega⟩ (by omega)
  rw [nv_cn, ← hdYs] at gD
  rw [nv_cn, ← hdX] at gL
  have hDlen : (Ψ .cn D).length = m + 1 := hlen
  have hw1 : Ω .wrap .i64 (Ω .ci (Ψ .cn D).length - 1) = Ω .ci m := by rw [hlen, wrap_pred (by omega) (by omega)]; rfl
  refine nx ?_
  refine idx_lims m x hw1 hx rfl ?_
  refine nx ?_
  (generalize hq : Ω .lt (Ω .ci x) 2147483648 = q; refine BrG.split (fun h => ?_) (fun h => ?_) <;> subst hq)
  · have hsm : x < 2147483648 := by have := h; simp only [wz] at this; omega
    refine nx ?_
    refine ⟨_, hC _ _ _ gD, ?_⟩
    refine nx ?_
    refine ⟨_, hC _ _ _ gL, ?_⟩
    refine nx ?_
    have hs31 : s < 32 := by
      rcases Nat.lt_or_ge s 32 with c | c
      · exact c
      · exfalso
        have hs32 : s = 32 := by omega
        subst hs32
        have hge := cn_ge (n := Y) (k := m) (by omega)
        have h1 := Nat.mul_le_mul_right (2 ^ 32) hge
        have h2 := Nat.mul_le_mul_left (4294967296 ^ m) (show x + 1 ≤ 2 ^ 32 by omega)
        omega
    refine ⟨(s + 1, s + 1), [], ⟨rfl, ?_, hs31⟩, by simp only; omega, rfl, ?_, rfl⟩
    · simp only
      rw [hdYs, ← hYl]
      refine Nat.le_antisymm ?_ (len_cn_eq (by omega))
      rw [hlen]
      refine len_cn.2 ?_
      have h2 := Nat.mul_le_mul_left (4294967296 ^ m) (show 2 * (x + 1) ≤ 4294967296 by omega)
      rw [Nat.pow_succ]
      rw [Nat.mul_left_comm] at h2
      omega
    · refine Eq.trans (b := [V.d (dN Ψ (Ψ .cn (Y * 2 ^ (s + 1)))), V.d (dN Ψ (Ψ .cn (X * 2 ^ (s + 1)))), V.d (.i .i64 _)]) rfl ?_
      rw [wrap_succ (by omega)]
  · have hbig : 2147483648 ≤ x := by have := h; simp only [wz] at this; omega
    clear gD gL hdYs hdX hdY
    refine nx ?_
    refine idx_lims m x hw1 hx rfl ?_
    refine nx ?_
    have htop : Ω .wrap .u64 (Ω .wrap .u64 (Ω .ci x) + 1) = Ω .ci (x + 1) := by
      rw [wrapu64_ci, wrapu64]; simp only [wz]; omega
    rw [htop]
    have hDl2 : D < 4294967296 ^ m * (x + 1) := hup
    refine LoopG.intro (σ := Bool × Nat × Nat) [7, 8, 9, 10, 11, 12] [1050]
      (fun u => [.d (dN Ψ (Ψ .cn D)), .d (dN Ψ (Ψ .cn u.2.2)), .d (.i .i64 (Ω .ci s)), if u.1 then .own 1050 1 else .d (dN Ψ (Ψ .cn u.2.1)), .d (.i .i64 (Ω .ci (m + 1))), .d (.i .u64 (Ω .ci (x + 1)))])
      (fun u => [.row u.1 T.uint32 1 (Ψ .lims (Ψ .cn 0))])
      (fun u => (u.1 = true → u.2.1 = 0) ∧ u.2.1 * D + u.2.2 = L0)
      (fun u => u.2.2) (true, 0, L0) [2000] ⟨(by first | exact rfl | exact fun _ => rfl), by simp⟩ ⟨rfl, ?_, ?_⟩ ?_
    · refine Eq.trans (b := [V.d (dN Ψ (Ψ .cn D)), V.d (dN Ψ (Ψ .cn L0)), V.d (.i .i64 (Ω .ci s)), .own 1050 1, V.d (.i .i64 _), V.d (.i .u64 _)]) rfl ?_
      rw [hlen]; rfl
    · refine Eq.trans (b := [.row true T.uint32 1 (Ψ .lims [])]) rfl ?_
      rw [← cn_zero]
    rintro ⟨fr, q, L⟩ ⟨hfr, hinv⟩
    simp only at hfr hinv
    have hLL : L ≤ L0 := by omega
    have hqL : q ≤ L0 := by
      have := Nat.le_mul_of_pos_right q (Nat.pos_of_ne_zero hD0)
      omega
    have hLlen := len_cn_eq hLL
    have hqlen := len_cn_eq hqL
    have gc := cmp1_good (Ψ .cn L) (Ψ .cn D) ⟨lim_cn _, by omega⟩ ⟨lim_cn _, by omega⟩
    rw [nv_cn, nv_cn] at gc
    refine nx ?_
    refine ⟨_, hC _ _ _ gc, ?_⟩
    refine nx ?_
    refine BrG.split (fun h => ?_) (fun h => ?_)
    · have hge : D ≤ L := by have := of_decide_eq_true h; exact cmpI_nonneg.1 this
      obtain ⟨y, p, hplen, hy, hy0, hyl, hyup, hylo, hysp⟩ := cn_top (show L ≠ 0 by omega)
      have hpm : m ≤ p := by have := len_cn_eq hge; omega
      have hv1 : Ω .wrap .i64 (Ω .ci (Ψ .cn L).length - Ω .ci (m + 1)) = Ω .ci (p - m) := by
        rw [hplen, wrap_sub (by omega) (by omega), show p + 1 - (m + 1) = p - m by omega]
      have hv2 : Ω .wrap .i64 (Ω .ci (Ψ .cn L).length - 1) = Ω .ci p := by rw [hplen, wrap_pred (by omega) (by omega)]; rfl
      have hxne : Ω .ci (x + 1) ≠ 0 := by simp only [wz]; omega
      refine nx ?_
      rw [hv1]
      refine idx_lims p y hv2 hy rfl ?_
      refine nx ?_
      refine ⟨hxne, ?_⟩
      have hw3 : Ω .wrap .u64 ((Ω .wrap .u64 (Ω .ci y)).tdiv (Ω .ci (x + 1))) = Ω .ci (y / (x + 1)) := by
        rw [wrapu64_ci, tdiv_ci, wrapu64_ci, Nat.mod_eq_of_lt (show y < 18446744073709551616 by omega), Nat.mod_eq_of_lt]
        exact Nat.lt_of_le_of_lt (Nat.div_le_self _ _) (by omega)
      rw [hw3]
      obtain ⟨t0, ht0d⟩ : ∃ t, t = y / (x + 1) := ⟨_, rfl⟩
      rw [← ht0d]
      have hpow : 4294967296 ^ m * 4294967296 ^ (p - m) = 4294967296 ^ p := by rw [← Nat.pow_add, show m + (p - m) = p by omega]
      refine BrG.split (fun h => ?_) (fun h => ?_)
      focus
        have ht0 : t0 = 0 := by simp [wz] at h; first | omega | (have := of_decide_eq_true h; omega)
        rw [ht0]
        refine nx ?_
        refine BrG.split (fun h => ?_) (fun h => ?_)
        focus
          have hgt : m < p := by have := of_decide_eq_true h; rw [hplen] at this; simp only [wz] at this; omega
          obtain ⟨z, hz⟩ : ∃ z, (Ψ .cn L)[p - 1]? = some z := ⟨_, List.getElem?_eq_getElem (by omega)⟩
          have hzl := lim_get (lim_cn _) hz
          have hv4 : Ω .wrap .i64 (Ω .ci (Ψ .cn L).length - 2) = Ω .ci (p - 1) := by
            rw [hplen, wrap64 (by simp only [wz]; omega) (by simp only [wz]; omega)]; simp only [wz]; omega
          refine nx ?_
          refine idx_lims p y hv2 hy rfl ?_
          refine nx ?_
          refine idx_lims (p - 1) z hv4 hz rfl ?_
          refine nx ?_
          refine ⟨hxne, ?_⟩
          obtain ⟨k, hk⟩ : ∃ k, k = p - m - 1 := ⟨_, rfl⟩
          obtain ⟨t, ht⟩ : ∃ t, t = (y * 4294967296 + z) / (x + 1) := ⟨_, rfl⟩
          have hw4 : Ω .wrap .u64 ((Ω .wrap .u64 (Ω .wrap .u64 (Ω .wrap .u64 (Ω .ci y) * 4294967296) + Ω .wrap .u64 (Ω .ci z))).tdiv (Ω .ci (x + 1))) = Ω .ci t := by
            have e1 : Ω .wrap .u64 (Ω .wrap .u64 (Ω .wrap .u64 (Ω .ci y) * 4294967296) + Ω .wrap .u64 (Ω .ci z)) = Ω .ci (y * 4294967296 + z) := by
              rw [wrapu64_ci, wrapu64_ci, wrapu64, wrapu64]; simp only [wz]; omega
            rw [e1, tdiv_ci, ← ht, wrapu64_ci, Nat.mod_eq_of_lt]
            rw [ht]
            exact Nat.lt_of_le_of_lt (Nat.div_le_self _ _) (by omega)
          have hw5 : Ω .wrap .i64 (Ω .ci (p - m) - 1) = Ω .ci k := by rw [wrap_pred (by omega) (by omega), hk]
          rw [hw4, hw5]
          have htpos : t ≠ 0 := by
            rw [ht]
            have : 1 ≤ (y * 4294967296 + z) / (x + 1) := (Nat.le_div_iff_mul_le (by omega)).2 (by omega)
            omega
          have htl : t < 18446744073709551616 := by
            rw [ht]
            exact Nat.lt_of_le_of_lt (Nat.div_le_self _ _) (by omega)
          have hok : 4294967296 ^ k * t * D ≤ L := by
            have hz2 := nv_take_succ hz
            rw [show p - 1 + 1 = p by omega] at hz2
            refine times_ok (M := 4294967296 ^ (p - 1)) (x := y * 4294967296 + z) ?_ hDl2 ?_ (by rw [ht]; exact Nat.div_mul_le_self _ _)
            · rw [hysp, hz2, Nat.mul_add, show 4294967296 ^ (p - 1) * (y * 4294967296) = 4294967296 ^ p * y by
                rw [show 4294967296 ^ p = 4294967296 ^ (p - 1) * 4294967296 by rw [← Nat.pow_succ, show (p - 1).succ = p by omega]]; ac_rfl]
              omega
            · rw [← Nat.pow_add, show m + k = p - 1 by omega]
          have hkl : k ≤ a.length := by omega
          refine BrG.split (fun h => ?_) (fun h => ?_)
          · exfalso; simp [wz] at h; first | omega | (have := of_decide_eq_true h; omega)
          refine nx ?_
        rotate_left
        focus
          have hgt : p = m := by have := of_decide_eq_false h; rw [hplen] at this; simp only [wz] at this; omega
          obtain ⟨k, hk⟩ : ∃ k, k = p - m := ⟨_, rfl⟩
          obtain ⟨t, ht⟩ : ∃ t, t = 1 := ⟨_, rfl⟩
          have htpos : t ≠ 0 := by omega
          have htl : t < 18446744073709551616 := by omega
          have hok : 4294967296 ^ k * t * D ≤ L := by
            rw [hk, ht, hgt, Nat.sub_self]; omega
          have hkl : k ≤ a.length := by omega
          rw [← hk]
          refine nx ?_
          refine BrG.split (fun h => ?_) (fun h => ?_)
          rotate_left
          · exfalso; have := h; simp only [wz] at this; omega
          refine nx ?_
          rw [show (1 : Int) = Ω .ci t by rw [ht]; rfl]
      rotate_left 2
      focus
        have ht0 : t0 ≠ 0 := by simp [wz] at h; first | omega | (have := of_decide_eq_false h; omega)
        obtain ⟨k, hk⟩ : ∃ k, k = p - m := ⟨_, rfl⟩
        obtain ⟨t, ht'⟩ : ∃ t, t = t0 := ⟨_, rfl⟩
        have ht : t = y / (x + 1) := by rw [ht', ht0d]
        have htpos : t ≠ 0 := by omega
        have htl : t < 18446744073709551616 := by
          rw [ht]
          exact Nat.lt_of_le_of_lt (Nat.div_le_self _ _) (by omega)
        have hok : 4294967296 ^ k * t * D ≤ L := times_ok hylo hDl2 (by rw [hk]; exact hpow) (by rw [ht]; exact Nat.div_mul_le_self _ _)
        have hkl : k ≤ a.length := by omega
        rw [← hk, ← ht']
        refine nx ?_
        refine BrG.split (fun h => ?_) (fun h => ?_)
        · exfalso; simp [wz] at h; first | omega | (have := of_decide_eq_true h; omega)
        refine nx ?_
      all_goals
        obtain ⟨S, hS⟩ : ∃ S, S = List.replicate k 0 ++ [t % 4294967296, t / 4294967296] := ⟨_, rfl⟩
        have hSv : nv S = 4294967296 ^ k * t := by rw [hS, nv_at]
        have hSl : S.length = k + 2 := by rw [hS]; simp
        have hSn : lim S := by rw [hS]; exact lim_append.2 ⟨lim_rep _, by simp [lim_cons, lim_nil]; omega⟩
        have ga := at1_good t k htl (by omega)
        rw [← hS] at ga
        have gm := mul1_good S (Ψ .cn D) ⟨hSn, by omega⟩ ⟨lim_cn _, by omega⟩ (by omega) (by omega)
        rw [hSv, nv_cn] at gm
        have hPle := len_cn_eq hok
        have gs := sub1_good (Ψ .cn L) (Ψ .cn (4294967296 ^ k * t * D)) ⟨lim_cn _, by omega⟩ ⟨lim_cn _, by omega⟩ (by omega) (by rw [nv_cn, nv_cn]; exact hok)
        rw [nv_cn, nv_cn] at gs
        have hinv2 := div_inv hinv hok
        have gad := add1_good (Ψ .cn q) S ⟨lim_cn _, by omega⟩ ⟨hSn, by omega⟩ (by omega) (by omega)
        rw [nv_cn, hSv] at gad
        have hPpos : 0 < 4294967296 ^ k * t * D := Nat.mul_pos (Nat.mul_pos (pow_pos_B k) (Nat.pos_of_ne_zero htpos)) (Nat.pos_of_ne_zero hD0)
        have hlt : L - 4294967296 ^ k * t * D < L := by omega
        obtain ⟨q', hq'⟩ : ∃ q', q' = q + 4294967296 ^ k * t := ⟨_, rfl⟩
        obtain ⟨L', hL'⟩ : ∃ L', L' = L - 4294967296 ^ k * t * D := ⟨_, rfl⟩
        rw [← hq'] at gad hinv2
        rw [← hL'] at gs hinv2 hlt
        obtain ⟨P', hP'⟩ : ∃ P', P' = 4294967296 ^ k * t * D := ⟨_, rfl⟩
        rw [← hP'] at gm gs
        refine ⟨_, hC _ _ _ ga, ?_⟩
        cases fr
        · refine nx ?_
          refine ⟨_, hC _ _ _ gad, ?_⟩
          refine nx ?_
          refine ⟨_, hC _ _ _ gm, ?_⟩
          refine nx ?_
          refine ⟨_, hC _ _ _ gs, ?_⟩
          refine nx ?_
          refine ⟨(false, q', L'), [1050], ⟨fun h => Bool.noConfusion h, hinv2⟩, hlt, rfl, rfl, rfl⟩
        · have hq0 := hfr rfl
          subst hq0
          refine nx ?_
          refine ⟨_, hC _ _ _ gad, ?_⟩
          refine nx ?_
          refine ⟨_, hC _ _ _ gm, ?_⟩
          refine nx ?_
          refine ⟨_, hC _ _ _ gs, ?_⟩
          refine nx ?_
          refine ⟨(false, q', L'), [1050], ⟨fun h => Bool.noConfusion h, hinv2⟩, hlt, rfl, rfl, rfl⟩
    · have hlt : L < D := by have := of_decide_eq_false h; have h2 := mt (@cmpI_nonneg L D).2 this; omega
      obtain ⟨e1, e2⟩ := hdiv q L hinv hlt
      rw [e1, ← e2]
      obtain ⟨Y2, hY2⟩ : ∃ n, n = L / 2 ^ s := ⟨_, rfl⟩
      refine nx ?_
      refine LoopG.intro (σ := Nat) [8, 9, 10, 17] [1050]
        (fun n => [.d (dN Ψ (Ψ .cn (L / 2 ^ n))), .d (.i .i64 (Ω .ci s)), if fr then .own 1050 1 else .d (dN Ψ (Ψ .cn q)), .d (.i .i64 (Ω .ci n))])
        (fun _ => [.row fr T.uint32 1 (Ψ .lims (Ψ .cn 0))])
        (fun n => n ≤ s)
        (fun n => s - n) 0 [1050] (Nat.zero_le _) ⟨rfl, ?_, rfl⟩ ?_
      · simp only [Nat.pow_zero, Nat.div_one]
        cases fr <;> rfl
      intro n hn
      have hln : (Ψ .cn (L / 2 ^ n)).length ≤ (Ψ .cn L).length := len_cn_eq (Nat.div_le_self _ _)
      have gh := half1_good (Ψ .cn (L / 2 ^ n)) ⟨lim_cn _, by omega⟩
      rw [nv_cn, halves] at gh
      obtain ⟨u1, hu1⟩ : ∃ u, u = L / 2 ^ n := ⟨_, rfl⟩
      obtain ⟨u2, hu2⟩ : ∃ u, u = L / 2 ^ (n + 1) := ⟨_, rfl⟩
      rw [← hu1, ← hu2] at gh
      rw [← hu1]
      refine nx ?_
      refine BrG.split (fun h => ?_) (fun h => ?_)
      · have hns : n < s := by have := h; simp only [wz] at this; omega
        refine nx ?_
        refine ⟨_, hC _ _ _ gh, ?_⟩
        refine nx ?_
        refine ⟨n + 1, [1050], hns, by omega, rfl, ?_, rfl⟩
        rw [← hu2]
        refine Eq.trans (b := [V.d (dN Ψ (Ψ .cn u2)), V.d (.i .i64 (Ω .ci s)), if fr then .own 1050 1 else .d (dN Ψ (Ψ .cn q)), V.d (.i .i64 (Ω .wrap .i64 (Ω .ci n + 1)))]) ?_ ?_
        · cases fr <;> rfl
        · rw [wrap_succ (by omega)]
      · have hns : n = s := by have := h; simp only [wz] at this; omega
        subst hns
        cases fr
        · refine nx ?_
          rw [hu1]
        · have hq0 := hfr rfl
          subst hq0
          refine nx ?_
          rw [hu1]

theorem gcd1_good (a b : List Nat) (ha : N a) (hb : N b) (hal : a.length < 137438953472) (hbl : b.length < 137438953472) :
    Good P F.penumbraref02_Gcd [.d (dN Ψ a), .d (dN Ψ b)] [] (.d (dN Ψ (Ψ .cn ((nv a).gcd (nv b))))) [] := by
  refine G.penumbraref02_Gcd fun C C2 hC hC2 => ?_
  refine nx ?_
  refine LoopG.intro (σ := List Nat × List Nat) [0, 1] [] (fun s => [.d (dN Ψ s.1), .d (dN Ψ s.2)]) (fun _ => [])
    (fun s => N s.1 ∧ N s.2 ∧ s.1.length < 137438953472 ∧ s.2.length < 137438953472 ∧ (nv s.1).gcd (nv s.2) = (nv a).gcd (nv b)) (fun s => nv s.2) (a, b) [] ⟨ha, hb, hal, hbl, rfl⟩ ⟨rfl, rfl, rfl⟩ ?_
  rintro ⟨x, y⟩ ⟨hx, hy, hxl, hyl, he⟩
  simp only at hx hy hxl hyl he
  have gz := zero1_good y hy
  by_cases hy0 : nv y = 0
  · rw [decide_eq_true hy0] at gz
    rw [hy0, Nat.gcd_zero_right] at he
    have gn := norm1_good x hx
    rw [he] at gn
    refine nx ?_
    refine ⟨_, hC _ _ _ gz, ?_⟩
    refine nx ?_
    refine ⟨_, hC _ _ _ gn, ?_⟩
    exact nx trivial
  · rw [decide_eq_false hy0] at gz
    have hg := divmod1_good x y hx hy hxl hyl hy0
    have hlt := Nat.mod_lt (nv x) (Nat.pos_of_ne_zero hy0)
    have hml : (Ψ .cn (nv x % nv y)).length ≤ y.length := len_cn.2 (Nat.lt_trans hlt (nv_lt hy.lim))
    refine nx ?_
    refine ⟨_, hC _ _ _ gz, ?_⟩
    refine nx ?_
    refine ⟨_, hC _ _ _ hg, ?_⟩
    refine nx ?_
    refine ⟨(y, Ψ .cn (nv x % nv y)), [], ⟨hy, ⟨lim_cn _, by simp only; omega⟩, hyl, by simp only; omega, ?_⟩, ?_, rfl, rfl, rfl⟩
    · simp only [nv_cn]
      rw [← he, Nat.gcd_comm (nv y), ← Nat.gcd_rec, Nat.gcd_comm]
    · simp only [nv_cn]
      exact hlt
end Go.K.S
end
section
/-
  Contracts of the reference for numbers: Zero, One, Read, Is, abs, Of, Sign, Add, Mul, Neg, Sub, Div, Over, Cmp, Between.
-/
namespace Go.K.S
open Go Go.K
set_option maxHeartbeats 4000000
set_option maxRecDepth 20000
set_option linter.unusedVariables false
set_option linter.unusedSimpArgs false

theorem zero3_good : Good P F.penumbraref03_Zero [] [] (.d (.agg (dR Ψ (Ψ .cr 0)))) [] := by
  refine G.penumbraref03_Zero fun C C2 hC hC2 => ?_
  rw [cr_zero]
  refine nx ?_
  rfl
theorem one3_good : Good P F.penumbraref03_One [] [] (.d (.agg (dR Ψ (Ψ .cr 1)))) [] := by
  refine G.penumbraref03_One fun C C2 hC hC2 => ?_
  rw [cr_one]
  refine nx ?_
  rfl

theorem read3_good (r : RL) {k : Nat} (h : Rn k r) (hk : k < 137438953472) : Good P F.penumbraref03_Read [.d (.agg (dR Ψ r))] [] (.d (.agg (dR Ψ (Ψ .cr (rv r))))) [] := by
  refine G.penumbraref03_Read fun C C2 hC hC2 => ?_
  have n1 := h.N1 (by omega)
  have n2 := h.N2 (by omega)
  have k1 := h.kn
  have k2 := h.kd
  have g1 := zero1_good r.den n2
  have g2 := zero1_good r.num n1
  have hz := @rv_zero_iff r
  by_cases hd : nv r.den = 0
  · rw [hz.2 (.inr hd)]
    rw [decide_eq_true hd] at g1
    have g3 := zero3_good
    generalize Ψ .cr 0 = R at *
    obtain ⟨s, x, y⟩ := r
    simp only at *
    refine nx ?_
    refine ⟨_, hC _ _ _ g1, ?_⟩
    refine nx ?_
    refine ⟨_, hC _ _ _ g3, ?_⟩
    exact nx trivial
  rw [decide_eq_false hd] at g1
  by_cases hn : nv r.num = 0
  · rw [hz.2 (.inl hn)]
    rw [decide_eq_true hn] at g2
    have g3 := zero3_good
    generalize Ψ .cr 0 = R at *
    obtain ⟨s, x, y⟩ := r
    simp only at *
    refine nx ?_
    refine ⟨_, hC _ _ _ g1, ?_⟩
    refine nx ?_
    refine ⟨_, hC _ _ _ g2, ?_⟩
    refine nx ?_
    refine ⟨_, hC _ _ _ g3, ?_⟩
    exact nx trivial
  rw [decide_eq_false hn] at g2
  have g3 := gcd1_good r.num r.den n1 n2 (by omega) (by omega)
  have hcr := cr_mk (b := r.neg) hn hd
  have hrv : rv r = mkRat (sg r.neg (nv r.num)) (nv r.den) := rfl
  rw [← hrv] at hcr
  have hg0 : (nv r.num).gcd (nv r.den) ≠ 0 := Nat.gcd_ne_zero_left hn
  have hgl : (Ψ .cn ((nv r.num).gcd (nv r.den))).length ≤ r.num.length := len_cn.2 (Nat.lt_of_le_of_lt (Nat.gcd_le_left _ (Nat.pos_of_ne_zero hn)) (nv_lt n1.lim))
  have g4 := divmod1_good r.num (Ψ .cn ((nv r.num).gcd (nv r.den))) n1 ⟨lim_cn _, by omega⟩ (by omega) (by omega) (by rw [nv_cn]; exact hg0)
  have g5 := divmod1_good r.den (Ψ .cn ((nv r.num).gcd (nv r.den))) n2 ⟨lim_cn _, by omega⟩ (by omega) (by omega) (by rw [nv_cn]; exact hg0)
  rw [nv_cn] at g4 g5
  obtain ⟨R, hR⟩ : ∃ R, R = Ψ .cr (rv r) := ⟨_, rfl⟩
  rw [← hR] at hcr ⊢
  clear hR hrv hz
  generalize (nv r.num).gcd (nv r.den) = g at *
  generalize nv r.num / g = u1 at *
  generalize nv r.num % g = u2 at *
  generalize nv r.den / g = u3 at *
  generalize nv r.den % g = u4 at *
  obtain ⟨s, x, y⟩ := r
  simp only at *
  subst hcr
  refine nx ?_
  refine ⟨_, hC _ _ _ g1, ?_⟩
  refine nx ?_
  refine ⟨_, hC _ _ _ g2, ?_⟩
  refine nx ?_
  refine ⟨_, hC _ _ _ g3, ?_⟩
  refine nx ?_
  refine ⟨_, hC _ _ _ g4, ?_⟩
  refine nx ?_
  refine ⟨_, hC _ _ _ g5, ?_⟩
  exact nx trivial

theorem is3_good (a b : RL) {j k : Nat} (ha : Rn j a) (hb : Rn k b) (hj : j < 1099511627776) (hk : k < 1099511627776) :
    Good P F.penumbraref03_Is [.d (.agg (dR Ψ a)), .d (.agg (dR Ψ b))] [] (.d (.b (decide (a = b)))) [] := by
  refine G.penumbraref03_Is fun C C2 hC hC2 => ?_
  have k1 := ha.kn
  have k2 := ha.kd
  have k3 := hb.kn
  have k4 := hb.kd
  have g1 := same1_good a.num b.num (by omega) (by omega)
  have g2 := same1_good a.den b.den (by omega) (by omega)
  obtain ⟨R, hR⟩ : ∃ R, R = decide (a = b) := ⟨_, rfl⟩
  rw [← hR]
  have hR2 : R = (decide (a.neg = b.neg) && (decide (a.num = b.num) && decide (a.den = b.den))) := by
    rw [hR, ← Bool.decide_and, ← Bool.decide_and]
    exact decide_eq_decide.2 RL.ext_iff''
  clear hR
  generalize decide (a.num = b.num) = t1 at *
  generalize decide (a.den = b.den) = t2 at *
  obtain ⟨s, x, y⟩ := a
  obtain ⟨s', x', y'⟩ := b
  simp only at *
  subst hR2
  cases s <;> cases s' <;> cases t1 <;> cases t2
  all_goals exact run trivial

theorem abs3_good (n : Int) (h1 : -9223372036854775808 ≤ n) (h2 : n ≤ 9223372036854775807) : Good P F.penumbraref03_abs [.d (.i .i64 n)] [] (.d (dN Ψ (Ψ .cn n.natAbs))) [] := by
  refine G.penumbraref03_abs fun C C2 hC hC2 => ?_
  have g := of1_good n.natAbs (by omega)
  obtain ⟨m, hm⟩ : ∃ m, m = n.natAbs := ⟨_, rfl⟩
  rw [← hm] at g ⊢
  refine nx ?_
  refine BrG.split (fun h => ?_) (fun h => ?_)
  · have h0 := of_decide_eq_true h
    have e : Ω .wrap .u64 (Ω .wrap .u64 (Ω .wrap .i64 (0 - Ω .wrap .i64 (n + 1))) + 1) = Ω .ci m := by
      rw [wrap64 (n := n + 1) (by omega) (by omega), wrap64 (by omega) (by omega), wrapu64, wrapu64]; simp only [wz]; omega
    refine nx ?_
    rw [e]
    refine ⟨_, hC _ _ _ g, ?_⟩
    exact nx trivial
  · have h0 := of_decide_eq_false h
    have e : Ω .wrap .u64 n = Ω .ci m := by
      rw [wrapu64]; simp only [wz]; omega
    refine nx ?_
    rw [e]
    refine ⟨_, hC _ _ _ g, ?_⟩
    exact nx trivial

theorem of3_good (n d : Int) (h1 : -9223372036854775808 ≤ n) (h2 : n ≤ 9223372036854775807) (h3 : -9223372036854775808 ≤ d) (h4 : d ≤ 9223372036854775807) :
    Good P F.penumbraref03_Of [.d (.i .i64 n), .d (.i .i64 d)] [] (.d (.agg (dR Ψ (Ψ .cr ((n : Rat) / (d : Rat)))))) [] := by
  refine G.penumbraref03_Of fun C C2 hC hC2 => ?_
  have g1 := abs3_good n h1 h2
  have g2 := abs3_good d h3 h4
  have b1 : n.natAbs < 4294967296 ^ 2 := by omega
  have b2 : d.natAbs < 4294967296 ^ 2 := by omega
  have g3 := fun s => read3_good ⟨s, Ψ .cn n.natAbs, Ψ .cn d.natAbs⟩ (k := 2) ⟨lim_cn _, lim_cn _, len_cn.2 b1, len_cn.2 b2⟩ (by omega)
  simp only [rv_mk, nv_cn] at g3
  have hv := of_mk n d
  obtain ⟨R, hR⟩ : ∃ R, R = Ψ .cr ((n : Rat) / (d : Rat)) := ⟨_, rfl⟩
  rw [← hR]
  rw [← hv] at hR
  clear hv
  generalize n.natAbs = u at *
  generalize d.natAbs = v at *
  have g3' : ∀ s, R = Ψ .cr (mkRat (sg s u) v) → Good P F.penumbraref03_Read [.d (.agg (dR Ψ ⟨s, Ψ .cn u, Ψ .cn v⟩))] [] (.d (.agg (dR Ψ R))) [] := fun s e => e ▸ g3 s
  refine nx ?_
  have hn : n < 0 ∨ 0 ≤ n := by omega
  have hd : d < 0 ∨ 0 ≤ d := by omega
  rcases hn with hn | hn <;> rcases hd with hd | hd
  all_goals
    first | rw [decide_eq_true (show n < 0 by omega)] at * | rw [decide_eq_false (show ¬ n < 0 by omega)] at *
    first | rw [decide_eq_true (show d < 0 by omega)] at hR | rw [decide_eq_false (show ¬ d < 0 by omega)] at hR
    refine nx ?_
    repeat (first
      | (rw [lt_true.2 (show n < 0 by omega)]; refine nx ?_)
      | (rw [lt_false.2 (show 0 ≤ n by omega)]; refine nx ?_)
      | (rw [lt_true.2 (show d < 0 by omega)]; refine nx ?_)
      | (rw [lt_false.2 (show 0 ≤ d by omega)]; refine nx ?_)
      | (rw [le_true.2 (show 0 ≤ n by omega)]; refine nx ?_)
      | (rw [le_false.2 (show n < 0 by omega)]; refine nx ?_)
      | (rw [le_true.2 (show 0 ≤ d by omega)]; refine nx ?_)
      | (rw [le_false.2 (show d < 0 by omega)]; refine nx ?_))
    have g := g3' _ hR
    refine ⟨_, hC _ _ _ g1, ?_⟩
    refine nx ?_
    refine ⟨_, hC _ _ _ g2, ?_⟩
    refine nx ?_
    refine ⟨_, hC _ _ _ g, ?_⟩
    exact nx trivial

theorem sign3_good (r : RL) {k : Nat} (h : Rn k r) (hk : k < 549755813888) : Good P F.penumbraref03_Sign [.d (.agg (dR Ψ r))] [] (.d (.i .i64 (Ψ .sI (rv r)))) [] := by
  refine G.penumbraref03_Sign fun C C2 hC hC2 => ?_
  have g1 := zero1_good r.num (h.N1 (by omega))
  have g2 := zero1_good r.den (h.N2 (by omega))
  have z := @rv_zero_iff r
  have hs := @sI_rv r
  have h0 := @sI_zero (rv r)
  rw [z] at h0
  obtain ⟨R, hR⟩ : ∃ R, R = Ψ .sI (rv r) := ⟨_, rfl⟩
  rw [← hR] at hs h0 ⊢
  by_cases hm : nv r.num = 0
  · rw [decide_eq_true hm] at g1
    have := h0.2 (.inl hm)
    subst this
    obtain ⟨s, x, y⟩ := r
    simp only at *
    refine nx ?_
    refine ⟨_, hC _ _ _ g1, ?_⟩
    exact nx trivial
  rw [decide_eq_false hm] at g1
  by_cases hn : nv r.den = 0
  · rw [decide_eq_true hn] at g2
    have := h0.2 (.inr hn)
    subst this
    obtain ⟨s, x, y⟩ := r
    simp only at *
    refine nx ?_
    refine ⟨_, hC _ _ _ g1, ?_⟩
    refine nx ?_
    refine ⟨_, hC _ _ _ g2, ?_⟩
    exact nx trivial
  rw [decide_eq_false hn] at g2
  have := hs hm hn
  subst this
  obtain ⟨s, x, y⟩ := r
  simp only at *
  cases s
  all_goals
    refine nx ?_
    refine ⟨_, hC _ _ _ g1, ?_⟩
    refine nx ?_
    refine ⟨_, hC _ _ _ g2, ?_⟩
    exact nx trivial

theorem mul3_good (a b : RL) {j k : Nat} (ha : Rn j a) (hb : Rn k b) (hj2 : j < 68719476736) (hk2 : k < 68719476736) :
    Good P F.penumbraref03_Mul [.d (.agg (dR Ψ a)), .d (.agg (dR Ψ b))] [] (.d (.agg (dR Ψ (Ψ .cr (rv a * rv b))))) [] := by
  refine G.penumbraref03_Mul fun C C2 hC hC2 => ?_
  have p1 := ha.N1 (by omega)
  have p2 := ha.N2 (by omega)
  have q1 := hb.N1 (by omega)
  have q2 := hb.N2 (by omega)
  have lp1 := ha.kn
  have lp2 := ha.kd
  have lq1 := hb.kn
  have lq2 := hb.kd
  have m1 := mul1_good a.num b.num p1 q1 (by omega) (by omega)
  have m2 := mul1_good a.den b.den p2 q2 (by omega) (by omega)
  have b1 : nv a.num * nv b.num < 4294967296 ^ (j + k) := lt_mul_pow (nv_lt_pow p1.lim lp1) (nv_lt_pow q1.lim lq1)
  have b2 : nv a.den * nv b.den < 4294967296 ^ (j + k) := lt_mul_pow (nv_lt_pow p2.lim lp2) (nv_lt_pow q2.lim lq2)
  have g := read3_good ⟨a.neg != b.neg, Ψ .cn (nv a.num * nv b.num), Ψ .cn (nv a.den * nv b.den)⟩ (k := j + k) ⟨lim_cn _, lim_cn _, len_cn.2 b1, len_cn.2 b2⟩ (by omega)
  rw [rv_mk, nv_cn, nv_cn, ← rv_mul] at g
  generalize nv a.num * nv b.num = u at *
  generalize nv a.den * nv b.den = v at *
  generalize Ψ .cr (rv a * rv b) = R at *
  obtain ⟨s, x, y⟩ := a
  obtain ⟨s', x', y'⟩ := b
  simp only at *
  cases s <;> cases s'
  all_goals
    refine nx ?_
    refine ⟨_, hC _ _ _ m1, ?_⟩
    refine nx ?_
    refine ⟨_, hC _ _ _ m2, ?_⟩
    refine nx ?_
    refine ⟨_, hC _ _ _ g, ?_⟩
    exact nx trivial

theorem neg3_good (r : RL) {k : Nat} (h : Rn k r) (hk : k < 137438953472) : Good P F.penumbraref03_Neg [.d (.agg (dR Ψ r))] [] (.d (.agg (dR Ψ (Ψ .cr (- rv r))))) [] := by
  refine G.penumbraref03_Neg fun C C2 hC hC2 => ?_
  have g := read3_good ⟨!r.neg, r.num, r.den⟩ (k := k) ⟨h.ln, h.ld, h.kn, h.kd⟩ hk
  rw [rv_neg] at g
  generalize Ψ .cr (- rv r) = R at *
  obtain ⟨s, x, y⟩ := r
  simp only at *
  cases s
  all_goals
    refine nx ?_
    refine ⟨_, hC _ _ _ g, ?_⟩
    exact nx trivial

theorem add3_good (a b : RL) {j k : Nat} (ha : Rn j a) (hb : Rn k b) (hj2 : j < 68719476736) (hk2 : k < 68719476736) :
    Good P F.penumbraref03_Add [.d (.agg (dR Ψ a)), .d (.agg (dR Ψ b))] [] (.d (.agg (dR Ψ (Ψ .cr (rv a + rv b))))) [] := by
  refine G.penumbraref03_Add fun C C2 hC hC2 => ?_
  have p1 := ha.N1 (by omega)
  have p2 := ha.N2 (by omega)
  have q1 := hb.N1 (by omega)
  have q2 := hb.N2 (by omega)
  have lp1 := ha.kn
  have lp2 := ha.kd
  have lq1 := hb.kn
  have lq2 := hb.kd
  have s1 := sign3_good a ha (by omega)
  have s2 := sign3_good b hb (by omega)
  have r1 := read3_good a ha (by omega)
  have r2 := read3_good b hb (by omega)
  obtain ⟨R, hR⟩ : ∃ R, R = Ψ .cr (rv a + rv b) := ⟨_, rfl⟩
  rw [← hR]
  by_cases h1 : rv a = 0
  · have : R = Ψ .cr (rv b) := by rw [hR, h1, Rat.zero_add]
    rw [sI_zero.2 h1] at s1
    rw [← this] at r2
    clear hR this
    obtain ⟨s, x, y⟩ := a
    obtain ⟨s', x', y'⟩ := b
    simp only at *
    refine nx ?_
    refine ⟨_, hC _ _ _ s1, ?_⟩
    refine nx ?_
    refine BrG.yes rfl ?_
    refine nx ?_
    refine ⟨_, hC _ _ _ r2, ?_⟩
    exact nx trivial
  by_cases h2 : rv b = 0
  · have : R = Ψ .cr (rv a) := by rw [hR, h2, Rat.add_zero]
    have h3 := mt sI_zero.1 h1
    rw [sI_zero.2 h2] at s2
    rw [← this] at r1
    clear hR this h1
    generalize Ψ .sI (rv a) = t at *
    obtain ⟨s, x, y⟩ := a
    obtain ⟨s', x', y'⟩ := b
    simp only at *
    refine nx ?_
    refine ⟨_, hC _ _ _ s1, ?_⟩
    refine nx ?_
    refine BrG.split (fun h => ?_) (fun h => ?_)
    · exact absurd (by have := h; simp only [wz] at this ⊢; omega) h3
    refine nx ?_
    refine ⟨_, hC _ _ _ s2, ?_⟩
    refine nx ?_
    refine BrG.yes rfl ?_
    refine nx ?_
    refine ⟨_, hC _ _ _ r1, ?_⟩
    exact nx trivial
  have h3 := mt sI_zero.1 h1
  have h4 := mt sI_zero.1 h2
  have hda : nv a.den ≠ 0 := fun c => h1 (rv_zero_iff.2 (.inr c))
  have hdb : nv b.den ≠ 0 := fun c => h2 (rv_zero_iff.2 (.inr c))
  rw [rv_add hda hdb] at hR
  have m1 := mul1_good a.num b.den p1 q2 (by omega) (by omega)
  have m2 := mul1_good b.num a.den q1 p2 (by omega) (by omega)
  have m3 := mul1_good a.den b.den p2 q2 (by omega) (by omega)
  have b1 : nv a.num * nv b.den < 4294967296 ^ (j + k) := lt_mul_pow (nv_lt_pow p1.lim lp1) (nv_lt_pow q2.lim lq2)
  have b2 : nv b.num * nv a.den < 4294967296 ^ (j + k) := by rw [Nat.add_comm]; exact lt_mul_pow (nv_lt_pow q1.lim lq1) (nv_lt_pow p2.lim lp2)
  have b3 : nv a.den * nv b.den < 4294967296 ^ (j + k) := lt_mul_pow (nv_lt_pow p2.lim lp2) (nv_lt_pow q2.lim lq2)
  clear h1 h2 r1 r2 hda hdb
  generalize Ψ .sI (rv a) = t1 at *
  generalize Ψ .sI (rv b) = t2 at *
  generalize nv a.num * nv b.den = x at *
  generalize nv b.num * nv a.den = y at *
  generalize nv a.den * nv b.den = z at *
  obtain ⟨s, n1, d1⟩ := a
  obtain ⟨t, n2, d2⟩ := b
  simp only at *
  have hNx := N_cn b1 (by omega)
  have ny := N_cn b2 (by omega)
  have nz := N_cn b3 (by omega)
  have lx := len_cn.2 b1
  have ly := len_cn.2 b2
  have lz := len_cn.2 b3
  have gadd := add1_good (Ψ .cn x) (Ψ .cn y) hNx ny (by omega) (by omega)
  rw [nv_cn, nv_cn] at gadd
  have badd : x + y < 4294967296 ^ (j + k + 1) := by rw [Nat.pow_succ]; omega
  have bs1 : x - y < 4294967296 ^ (j + k) := by omega
  have bs2 : y - x < 4294967296 ^ (j + k) := by omega
  have g1 := read3_good ⟨s, Ψ .cn (x + y), Ψ .cn z⟩ (k := j + k + 1) ⟨lim_cn _, lim_cn _, len_cn.2 badd, by simp only; omega⟩ (by omega)
  have g2 := read3_good ⟨s, Ψ .cn (x - y), Ψ .cn z⟩ (k := j + k + 1) ⟨lim_cn _, lim_cn _, by have := len_cn.2 bs1; simp only; omega, by simp only; omega⟩ (by omega)
  have g3 := read3_good ⟨t, Ψ .cn (y - x), Ψ .cn z⟩ (k := j + k + 1) ⟨lim_cn _, lim_cn _, by have := len_cn.2 bs2; simp only; omega, by simp only; omega⟩ (by omega)
  rw [rv_mk, nv_cn, nv_cn] at g1 g2 g3
  have gc := cmp1_good (Ψ .cn x) (Ψ .cn y) hNx ny
  rw [nv_cn, nv_cn] at gc
  have hci := @cmpI_nonneg x y
  have gsub : y ≤ x → _ := fun h => sub1_good (Ψ .cn x) (Ψ .cn y) hNx ny (by omega) (by rw [nv_cn, nv_cn]; exact h)
  have gsub3 : x ≤ y → _ := fun h => sub1_good (Ψ .cn y) (Ψ .cn x) ny hNx (by omega) (by rw [nv_cn, nv_cn]; exact h)
  rw [nv_cn, nv_cn] at gsub gsub3
  have e1 : s = t → mkRat (sg s (x + y)) z = mkRat (sg s x + sg t y) z := fun h => by subst h; rw [sg_add_same]
  have e2 : s ≠ t → y ≤ x → mkRat (sg s (x - y)) z = mkRat (sg s x + sg t y) z := fun h h2 => by rw [sg_add_diff h h2]
  have e3 : s ≠ t → x ≤ y → mkRat (sg t (y - x)) z = mkRat (sg s x + sg t y) z := fun h h2 => by rw [Int.add_comm, sg_add_diff (fun c => h c.symm) h2]
  generalize Ψ .cmpI x y = c at *
  refine nx ?_
  refine ⟨_, hC _ _ _ s1, ?_⟩
  refine nx ?_
  refine BrG.split (fun h => ?_) (fun h => ?_)
  · exact absurd (by have := h; simp only [wz] at this ⊢; omega) h3
  refine nx ?_
  refine ⟨_, hC _ _ _ s2, ?_⟩
  refine nx ?_
  refine BrG.split (fun h => ?_) (fun h => ?_)
  · exact absurd (by have := h; simp only [wz] at this ⊢; omega) h4
  refine nx ?_
  refine ⟨_, hC _ _ _ m1, ?_⟩
  refine nx ?_
  refine ⟨_, hC _ _ _ m2, ?_⟩
  refine nx ?_
  refine ⟨_, hC _ _ _ m3, ?_⟩
  refine nx ?_
  refine BrG.split (fun h => ?_) (fun h => ?_)
  · have hst : s = t := by simpa using h
    rw [e1 hst, ← hR] at g1
    refine nx ?_
    refine ⟨_, hC _ _ _ gadd, ?_⟩
    refine nx ?_
    refine ⟨_, hC _ _ _ g1, ?_⟩
    exact nx trivial
  · have hst : s ≠ t := by simpa using h
    refine nx ?_
    refine ⟨_, hC _ _ _ gc, ?_⟩
    refine nx ?_
    refine BrG.split (fun h => ?_) (fun h => ?_)
    · have hge := hci.1 (of_decide_eq_true h)
      rw [e2 hst hge, ← hR] at g2
      refine nx ?_
      refine ⟨_, hC _ _ _ (gsub hge), ?_⟩
      refine nx ?_
      refine ⟨_, hC _ _ _ g2, ?_⟩
      exact nx trivial
    · have hlt := mt hci.2 (of_decide_eq_false h)
      rw [e3 hst (by omega), ← hR] at g3
      refine nx ?_
      refine ⟨_, hC _ _ _ (gsub3 (by omega)), ?_⟩
      refine nx ?_
      refine ⟨_, hC _ _ _ g3, ?_⟩
      exact nx trivial

theorem sub3_good (a b : RL) {j k : Nat} (ha : Rn j a) (hb : Rn k b) (hk : 0 < k) (hj2 : j < 68719476736) (hk2 : k < 68719476736) :
    Good P F.penumbraref03_Sub [.d (.agg (dR Ψ a)), .d (.agg (dR Ψ b))] [] (.d (.agg (dR Ψ (Ψ .cr (rv a - rv b))))) [] := by
  refine G.penumbraref03_Sub fun C C2 hC hC2 => ?_
  have g1 := neg3_good b hb (by omega)
  have g2 := add3_good a (Ψ .cr (- rv b)) ha (Rn_cr.2 (Qn_neg (Qn_rv hb hk))) hj2 hk2
  rw [rv_cr, ← Rat.sub_eq_add_neg] at g2
  generalize Ψ .cr (- rv b) = B at *
  generalize Ψ .cr (rv a - rv b) = R at *
  obtain ⟨s, x, y⟩ := a
  obtain ⟨s', x', y'⟩ := b
  refine nx ?_
  refine ⟨_, hC _ _ _ g1, ?_⟩
  refine nx ?_
  refine ⟨_, hC _ _ _ g2, ?_⟩
  exact nx trivial

theorem div3_good (a b : RL) {j k : Nat} (ha : Rn j a) (hb : Rn k b) (hj2 : j < 68719476736) (hk2 : k < 68719476736) :
    Good P F.penumbraref03_Div [.d (.agg (dR Ψ a)), .d (.agg (dR Ψ b))] [] (.tup [.d (.agg (dR Ψ (Ψ .cr (rv a / rv b)))), .d (.b (decide (rv b ≠ 0)))]) [] := by
  refine G.penumbraref03_Div fun C C2 hC hC2 => ?_
  have g1 := sign3_good b hb (by omega)
  have g3 := zero3_good
  have g4 := mul3_good a ⟨b.neg, b.den, b.num⟩ ha ⟨hb.ld, hb.ln, hb.kd, hb.kn⟩ hj2 hk2
  rw [rv_inv, ← Rat.div_def] at g4
  have z := @sI_zero (rv b)
  obtain ⟨R, hR⟩ : ∃ R, R = Ψ .cr (rv a / rv b) := ⟨_, rfl⟩
  obtain ⟨R2, hR2⟩ : ∃ R, R = decide (rv b ≠ 0) := ⟨_, rfl⟩
  rw [← hR, ← hR2]
  rw [← hR] at g4
  have hz : Ψ .sI (rv b) = 0 → R = Ψ .cr 0 ∧ R2 = false := fun c => by
    have h0 := z.1 c
    rw [hR, hR2, h0, Rat.div_def, Rat.inv_zero, Rat.mul_zero]
    exact ⟨rfl, decide_eq_false (fun q => q rfl)⟩
  have hnz : Ψ .sI (rv b) ≠ 0 → R2 = true := fun c => by
    rw [hR2]
    exact decide_eq_true (fun q => c (z.2 q))
  clear z hR hR2
  generalize Ψ .cr 0 = Z at *
  generalize Ψ .sI (rv b) = s at *
  obtain ⟨sa, xa, ya⟩ := a
  obtain ⟨sb, xb, yb⟩ := b
  simp only at *
  refine nx ?_
  refine ⟨_, hC _ _ _ g1, ?_⟩
  refine nx ?_
  refine BrG.split (fun h => ?_) (fun h => ?_)
  · have h0 : s = 0 := by have := h; simp only [wz] at this ⊢; omega
    obtain ⟨e1, e2⟩ := hz h0
    subst e1
    subst e2
    refine nx ?_
    refine ⟨_, hC _ _ _ g3, ?_⟩
    exact nx trivial
  · have h0 : s ≠ 0 := by have := h; simp only [wz] at this ⊢; omega
    have e1 := hnz h0
    subst e1
    refine nx ?_
    refine ⟨_, hC _ _ _ g4, ?_⟩
    exact nx trivial

theorem over3_good (a b : RL) {j k : Nat} (ha : Rn j a) (hb : Rn k b) (hj2 : j < 68719476736) (hk2 : k < 68719476736) :
    Good P F.penumbraref03_Over [.d (.agg (dR Ψ a)), .d (.agg (dR Ψ b))] [] (.d (.agg (dR Ψ (Ψ .cr (rv a / rv b))))) [] := by
  refine G.penumbraref03_Over fun C C2 hC hC2 => ?_
  have g1 := div3_good a b ha hb hj2 hk2
  generalize Ψ .cr (rv a / rv b) = R at *
  generalize decide (rv b ≠ 0) = R2 at *
  obtain ⟨sa, xa, ya⟩ := a
  obtain ⟨sb, xb, yb⟩ := b
  refine nx ?_
  refine ⟨_, hC _ _ _ g1, ?_⟩
  exact nx trivial

theorem cmp3_good (a b : RL) {j k : Nat} (ha : Rn j a) (hb : Rn k b) (hj : 0 < j) (hk : 0 < k) (hj2 : j < 68719476736) (hk2 : k < 68719476736) :
    Good P F.penumbraref03_Cmp [.d (.agg (dR Ψ a)), .d (.agg (dR Ψ b))] [] (.d (.i .i64 (Ψ .cI (rv a) (rv b)))) [] := by
  refine G.penumbraref03_Cmp fun C C2 hC hC2 => ?_
  have g1 := sub3_good a b ha hb hk hj2 hk2
  have g2 := sign3_good (Ψ .cr (rv a - rv b)) (Rn_cr.2 (Qn_sub (Qn_rv ha hj) (Qn_rv hb hk))) (by omega)
  rw [rv_cr, cI_sub] at g2
  generalize Ψ .cr (rv a - rv b) = R at *
  generalize Ψ .cI (rv a) (rv b) = c at *
  obtain ⟨sa, xa, ya⟩ := a
  obtain ⟨sb, xb, yb⟩ := b
  refine nx ?_
  refine ⟨_, hC _ _ _ g1, ?_⟩
  refine nx ?_
  refine ⟨_, hC _ _ _ g2, ?_⟩
  exact nx trivial

theorem between3_good (a b c : RL) {k : Nat} (ha : Rn k a) (hb : Rn k b) (hc : Rn k c) (hk : 0 < k) (hk2 : k < 68719476736) :
    Good P F.penumbraref03_Between [.d (.agg (dR Ψ a)), .d (.agg (dR Ψ b)), .d (.agg (dR Ψ c))] [] (.d (.b (decide (rv b ≤ rv a ∧ rv a ≤ rv c)))) [] := by
  refine G.penumbraref03_Between fun C C2 hC hC2 => ?_
  have g1 := cmp3_good a b ha hb hk hk hk2 hk2
  have g2 := cmp3_good a c ha hc hk hk hk2 hk2
  have e1 := @cI_nonneg (rv a) (rv b)
  have e2 := @cI_nonpos (rv a) (rv c)
  obtain ⟨R, hR⟩ : ∃ R, R = decide (rv b ≤ rv a ∧ rv a ≤ rv c) := ⟨_, rfl⟩
  rw [← hR]
  simp only [← e1, ← e2] at hR
  clear e1 e2
  generalize Ψ .cI (rv a) (rv b) = u at *
  generalize Ψ .cI (rv a) (rv c) = v at *
  obtain ⟨sa, xa, ya⟩ := a
  obtain ⟨sb, xb, yb⟩ := b
  obtain ⟨sc, xc, yc⟩ := c
  refine nx ?_
  refine ⟨_, hC _ _ _ g1, ?_⟩
  refine nx ?_
  refine BrG.split (fun h => ?_) (fun h => ?_)
  · refine nx ?_
    refine ⟨_, hC _ _ _ g2, ?_⟩
    refine nx ?_
    refine BrG.split (fun h2 => ?_) (fun h2 => ?_)
    · have : R = true := by rw [hR]; exact decide_eq_true ⟨of_decide_eq_true h, of_decide_eq_true h2⟩
      subst this
      exact nx trivial
    · have : R = false := by rw [hR]; exact decide_eq_false (fun q => of_decide_eq_false h2 q.2)
      subst this
      exact nx trivial
  · have : R = false := by rw [hR]; exact decide_eq_false (fun q => of_decide_eq_false h q.1)
    subst this
    exact nx trivial
end Go.K.S
end
section
/-
  Contracts of the references for points: Is, Zero, Read, Add, Scale, Null; At, Is.
-/
namespace Go.K.S
open Go Go.K
set_option maxHeartbeats 4000000
set_option maxRecDepth 20000
set_option linter.unusedVariables false
set_option linter.unusedSimpArgs false

theorem is5_good (a b : VL) {j k : Nat} (ha : Vn j a) (hb : Vn k b) (hj : j < 1099511627776) (hk : k < 1099511627776) :
    Good P F.penumbraref05_Is [.d (.agg (dV Ψ a)), .d (.agg (dV Ψ b))] [] (.d (.b (decide (a = b)))) [] := by
  refine G.penumbraref05_Is fun C C2 hC hC2 => ?_
  have g1 := is3_good a.x b.x ha.x hb.x hj hk
  have g2 := is3_good a.y b.y ha.y hb.y hj hk
  have g3 := is3_good a.z b.z ha.z hb.z hj hk
  obtain ⟨R, hR⟩ : ∃ R, R = decide (a = b) := ⟨_, rfl⟩
  rw [← hR]
  have hR2 : R = (decide (a.x = b.x) && (decide (a.y = b.y) && decide (a.z = b.z))) := by
    rw [hR, ← Bool.decide_and, ← Bool.decide_and]
    exact decide_eq_decide.2 VL.ext_iff'
  clear hR
  generalize decide (a.x = b.x) = t1 at *
  generalize decide (a.y = b.y) = t2 at *
  generalize decide (a.z = b.z) = t3 at *
  subst hR2
  cases t1
  · refine nx ?_
    refine ⟨_, hC _ _ _ g1, ?_⟩
    exact nx trivial
  cases t2
  · refine nx ?_
    refine ⟨_, hC _ _ _ g1, ?_⟩
    refine nx ?_
    refine ⟨_, hC _ _ _ g2, ?_⟩
    exact nx trivial
  cases t3
  all_goals
    refine nx ?_
    refine ⟨_, hC _ _ _ g1, ?_⟩
    refine nx ?_
    refine ⟨_, hC _ _ _ g2, ?_⟩
    refine nx ?_
    refine ⟨_, hC _ _ _ g3, ?_⟩
    exact nx trivial

theorem is8_good (a b : ML) {j k : Nat} (ha : Mn j a) (hb : Mn k b) (hj : j < 1099511627776) (hk : k < 1099511627776) :
    Good P F.penumbraref08_Is [.d (.agg (dM Ψ a)), .d (.agg (dM Ψ b))] [] (.d (.b (decide (a = b)))) [] := by
  refine G.penumbraref08_Is fun C C2 hC hC2 => ?_
  have g1 := is3_good a.s b.s ha.s hb.s hj hk
  have g2 := is3_good a.u b.u ha.u hb.u hj hk
  have g3 := is3_good a.v b.v ha.v hb.v hj hk
  obtain ⟨R, hR⟩ : ∃ R, R = decide (a = b) := ⟨_, rfl⟩
  rw [← hR]
  have hR2 : R = (decide (a.s = b.s) && (decide (a.u = b.u) && decide (a.v = b.v))) := by
    rw [hR, ← Bool.decide_and, ← Bool.decide_and]
    exact decide_eq_decide.2 ML.ext_iff'
  clear hR
  generalize decide (a.s = b.s) = t1 at *
  generalize decide (a.u = b.u) = t2 at *
  generalize decide (a.v = b.v) = t3 at *
  subst hR2
  cases t1
  · refine nx ?_
    refine ⟨_, hC _ _ _ g1, ?_⟩
    exact nx trivial
  cases t2
  · refine nx ?_
    refine ⟨_, hC _ _ _ g1, ?_⟩
    refine nx ?_
    refine ⟨_, hC _ _ _ g2, ?_⟩
    exact nx trivial
  cases t3
  all_goals
    refine nx ?_
    refine ⟨_, hC _ _ _ g1, ?_⟩
    refine nx ?_
    refine ⟨_, hC _ _ _ g2, ?_⟩
    refine nx ?_
    refine ⟨_, hC _ _ _ g3, ?_⟩
    exact nx trivial

theorem zero5_good : Good P F.penumbraref05_Zero [] [] (.d (.agg (dV Ψ (Ψ .cV v0)))) [] := by
  refine G.penumbraref05_Zero fun C C2 hC hC2 => ?_
  have g := zero3_good
  have hV : Ψ .cV v0 = ⟨Ψ .cr 0, Ψ .cr 0, Ψ .cr 0⟩ := rfl
  rw [hV]
  generalize Ψ .cr 0 = Z at *
  refine nx ?_
  refine ⟨_, hC _ _ _ g, ?_⟩
  refine nx ?_
  refine ⟨_, hC _ _ _ g, ?_⟩
  refine nx ?_
  refine ⟨_, hC _ _ _ g, ?_⟩
  exact nx trivial

theorem read5_good (v : VL) {k : Nat} (h : Vn k v) (hk : k < 137438953472) : Good P F.penumbraref05_Read [.d (.agg (dV Ψ v))] [] (.d (.agg (dV Ψ (Ψ .cV (vv v))))) [] := by
  refine G.penumbraref05_Read fun C C2 hC hC2 => ?_
  have g1 := read3_good v.x h.x hk
  have g2 := read3_good v.y h.y hk
  have g3 := read3_good v.z h.z hk
  have hV : Ψ .cV (vv v) = ⟨Ψ .cr (rv v.x), Ψ .cr (rv v.y), Ψ .cr (rv v.z)⟩ := rfl
  rw [hV]
  generalize Ψ .cr (rv v.x) = X at *
  generalize Ψ .cr (rv v.y) = Y at *
  generalize Ψ .cr (rv v.z) = Z at *
  refine nx ?_
  refine ⟨_, hC _ _ _ g1, ?_⟩
  refine nx ?_
  refine ⟨_, hC _ _ _ g2, ?_⟩
  refine nx ?_
  refine ⟨_, hC _ _ _ g3, ?_⟩
  exact nx trivial

theorem null5_good (v : VL) {k : Nat} (h : Vn k v) (hk0 : 0 < k) (hk : k < 137438953472) : Good P F.penumbraref05_Null [.d (.agg (dV Ψ v))] [] (.d (.b (decide (vv v = v0)))) [] := by
  refine G.penumbraref05_Null fun C C2 hC hC2 => ?_
  have g1 := read5_good v h hk
  have g2 := zero5_good
  have g3 := is5_good (Ψ .cV (vv v)) (Ψ .cV v0) (Vn_cV (Pn_vv h hk0)) (Vn_cV (Pn_v0 (k := 1) (by omega))) (by omega) (by omega)
  have e : decide (Ψ .cV (vv v) = Ψ .cV v0) = decide (vv v = v0) := decide_eq_decide.2 cV_eq_iff
  rw [e] at g3
  generalize Ψ .cV v0 = Z at *
  generalize Ψ .cV (vv v) = X at *
  generalize decide (vv v = v0) = R at *
  refine nx ?_
  refine ⟨_, hC _ _ _ g1, ?_⟩
  refine nx ?_
  refine ⟨_, hC _ _ _ g2, ?_⟩
  refine nx ?_
  refine ⟨_, hC _ _ _ g3, ?_⟩
  exact nx trivial

theorem add5_good (a b : VL) {k : Nat} (ha : Vn k a) (hb : Vn k b) (hk2 : k < 68719476736) :
    Good P F.penumbraref05_Add [.d (.agg (dV Ψ a)), .d (.agg (dV Ψ b))] [] (.d (.agg (dV Ψ (Ψ .cV (vadd (vv a) (vv b)))))) [] := by
  refine G.penumbraref05_Add fun C C2 hC hC2 => ?_
  have g1 := add3_good a.x b.x ha.x hb.x hk2 hk2
  have g2 := add3_good a.y b.y ha.y hb.y hk2 hk2
  have g3 := add3_good a.z b.z ha.z hb.z hk2 hk2
  have hV : Ψ .cV (vadd (vv a) (vv b)) = ⟨Ψ .cr (rv a.x + rv b.x), Ψ .cr (rv a.y + rv b.y), Ψ .cr (rv a.z + rv b.z)⟩ := rfl
  rw [hV]
  generalize Ψ .cr (rv a.x + rv b.x) = X at *
  generalize Ψ .cr (rv a.y + rv b.y) = Y at *
  generalize Ψ .cr (rv a.z + rv b.z) = Z at *
  refine nx ?_
  refine ⟨_, hC _ _ _ g1, ?_⟩
  refine nx ?_
  refine ⟨_, hC _ _ _ g2, ?_⟩
  refine nx ?_
  refine ⟨_, hC _ _ _ g3, ?_⟩
  exact nx trivial

theorem scale5_good (s : RL) (b : VL) {k : Nat} (ha : Rn k s) (hb : Vn k b) (hk2 : k < 68719476736) :
    Good P F.penumbraref05_Scale [.d (.agg (dR Ψ s)), .d (.agg (dV Ψ b))] [] (.d (.agg (dV Ψ (Ψ .cV (vmul (rv s) (vv b)))))) [] := by
  refine G.penumbraref05_Scale fun C C2 hC hC2 => ?_
  have g1 := mul3_good s b.x ha hb.x hk2 hk2
  have g2 := mul3_good s b.y ha hb.y hk2 hk2
  have g3 := mul3_good s b.z ha hb.z hk2 hk2
  have hV : Ψ .cV (vmul (rv s) (vv b)) = ⟨Ψ .cr (rv s * rv b.x), Ψ .cr (rv s * rv b.y), Ψ .cr (rv s * rv b.z)⟩ := rfl
  rw [hV]
  generalize Ψ .cr (rv s * rv b.x) = X at *
  generalize Ψ .cr (rv s * rv b.y) = Y at *
  generalize Ψ .cr (rv s * rv b.z) = Z at *
  refine nx ?_
  refine ⟨_, hC _ _ _ g1, ?_⟩
  refine nx ?_
  refine ⟨_, hC _ _ _ g2, ?_⟩
  refine nx ?_
  refine ⟨_, hC _ _ _ g3, ?_⟩
  exact nx trivial

theorem at8_good (o d : VL) (s : RL) {k : Nat} (ho : Vn k o) (hd : Vn k d) (hs : Rn k s) (hk : 0 < k) (hk2 : k < 34359738368) :
    Good P F.penumbraref08_At [.d (.agg (dV Ψ o)), .d (.agg (dV Ψ d)), .d (.agg (dR Ψ s))] [] (.d (.agg (dV Ψ (Ψ .cV (vadd (vv o) (vmul (rv s) (vv d))))))) [] := by
  refine G.penumbraref08_At fun C C2 hC hC2 => ?_
  have g1 := scale5_good s d hs hd (by omega)
  have q1 := Vn_cV (Pn_mul (Qn_rv hs hk) (Pn_vv hd hk) (by omega))
  have g2 := add5_good o (Ψ .cV (vmul (rv s) (vv d))) (ho.mono (show k ≤ k + k by omega)) q1 (by omega)
  rw [vv_cV] at g2
  generalize Ψ .cV (vadd (vv o) (vmul (rv s) (vv d))) = W at *
  generalize Ψ .cV (vmul (rv s) (vv d)) = X at *
  refine nx ?_
  refine ⟨_, hC _ _ _ g1, ?_⟩
  refine nx ?_
  refine ⟨_, hC _ _ _ g2, ?_⟩
  exact nx trivial
end Go.K.S
end
section
/-
  Contracts of the reference for boxes: Is, IsSpan, Min, Max, join, Join, Around, Holds.
-/
namespace Go.K
theorem decide_holds (b : B3) (p : V3) : decide (holds b p) = (decide (btw p.x b.lo.x b.hi.x) && (decide (btw p.y b.lo.y b.hi.y) && decide (btw p.z b.lo.z b.hi.z))) := by
  rw [← Bool.decide_and, ← Bool.decide_and]; rfl
end Go.K
namespace Go.K.S
open Go Go.K
set_option maxHeartbeats 8000000
set_option maxRecDepth 20000
set_option linter.unusedVariables false
set_option linter.unusedSimpArgs false

theorem is10_good (a b : BL) {j k : Nat} (ha : Bn j a) (hb : Bn k b) (hj : j < 1099511627776) (hk : k < 1099511627776) :
    Good P F.penumbraref10_Is [.d (.agg (dB Ψ a)), .d (.agg (dB Ψ b))] [] (.d (.b (decide (a = b)))) [] := by
  refine G.penumbraref10_Is fun C C2 hC hC2 => ?_
  have g1 := is5_good a.lo b.lo ha.lo hb.lo hj hk
  have g2 := is5_good a.hi b.hi ha.hi hb.hi hj hk
  obtain ⟨R, hR⟩ : ∃ R, R = decide (a = b) := ⟨_, rfl⟩
  rw [← hR]
  have hR2 : R = (decide (a.lo = b.lo) && decide (a.hi = b.hi)) := by
    rw [hR, ← Bool.decide_and]
    exact decide_eq_decide.2 BL.ext_iff'
  clear hR
  generalize decide (a.lo = b.lo) = t1 at *
  generalize decide (a.hi = b.hi) = t2 at *
  subst hR2
  cases t1
  · refine nx ?_
    refine ⟨_, hC _ _ _ g1, ?_⟩
    exact nx trivial
  cases t2
  all_goals
    refine nx ?_
    refine ⟨_, hC _ _ _ g1, ?_⟩
    refine nx ?_
    refine ⟨_, hC _ _ _ g2, ?_⟩
    exact nx trivial

theorem isspan_good (a b : SL) {j k : Nat} (ha : Rn j a.from') (ha' : Rn j a.to') (hb : Rn k b.from') (hb' : Rn k b.to') (hj : j < 1099511627776) (hk : k < 1099511627776) :
    Good P F.penumbraref10_IsSpan [.d (.agg (dS Ψ a)), .d (.agg (dS Ψ b))] [] (.d (.b (decide (a = b)))) [] := by
  refine G.penumbraref10_IsSpan fun C C2 hC hC2 => ?_
  have g1 := is3_good a.from' b.from' ha hb hj hk
  have g2 := is3_good a.to' b.to' ha' hb' hj hk
  obtain ⟨R, hR⟩ : ∃ R, R = decide (a = b) := ⟨_, rfl⟩
  rw [← hR]
  have hR2 : R = (decide (a.from' = b.from') && (decide (a.to' = b.to') && decide (a.op = b.op))) := by
    rw [hR, ← Bool.decide_and, ← Bool.decide_and]
    exact decide_eq_decide.2 SL.ext_iff'
  clear hR
  generalize decide (a.from' = b.from') = t1 at *
  generalize decide (a.to' = b.to') = t2 at *
  obtain ⟨fa, ta, oa⟩ := a
  obtain ⟨fb, tb, ob⟩ := b
  simp only at *
  subst hR2
  cases t1
  · refine nx ?_
    refine ⟨_, hC _ _ _ g1, ?_⟩
    exact nx trivial
  cases t2
  · refine nx ?_
    refine ⟨_, hC _ _ _ g1, ?_⟩
    refine nx ?_
    refine ⟨_, hC _ _ _ g2, ?_⟩
    exact nx trivial
  cases oa <;> cases ob
  all_goals
    refine nx ?_
    refine ⟨_, hC _ _ _ g1, ?_⟩
    refine nx ?_
    refine ⟨_, hC _ _ _ g2, ?_⟩
    exact nx trivial

theorem min10_good (a b : RL) {k : Nat} (ha : Rn k a) (hb : Rn k b) (hk : 0 < k) (hk2 : k < 68719476736) :
    Good P F.penumbraref10_Min [.d (.agg (dR Ψ a)), .d (.agg (dR Ψ b))] [] (.d (.agg (dR Ψ (Ψ .cr (rmin (rv a) (rv b)))))) [] := by
  refine G.penumbraref10_Min fun C C2 hC hC2 => ?_
  have g := cmp3_good a b ha hb hk hk hk2 hk2
  have g1 := read3_good a ha (by omega)
  have g2 := read3_good b hb (by omega)
  have z := @cI_nonpos (rv a) (rv b)
  obtain ⟨R, hR⟩ : ∃ R, R = Ψ .cr (rmin (rv a) (rv b)) := ⟨_, rfl⟩
  rw [← hR]
  by_cases c : rv a ≤ rv b
  · have e : R = Ψ .cr (rv a) := by rw [hR, rmin, if_pos c]
    have := z.2 c
    rw [← e] at g1
    clear e hR z
    generalize Ψ .cI (rv a) (rv b) = i at *
    refine nx ?_
    refine ⟨_, hC _ _ _ g, ?_⟩
    refine nx ?_
    first | rw [le_true.2 this] | rw [lt_true.2 this] | rw [eq_true'.2 this] | rw [ne_true'.2 this]
    refine nx ?_
    refine ⟨_, hC _ _ _ g1, ?_⟩
    exact nx trivial
  · have e : R = Ψ .cr (rv b) := by rw [hR, rmin, if_neg c]
    have := mt z.1 c
    rw [← e] at g2
    clear e hR z
    generalize Ψ .cI (rv a) (rv b) = i at *
    refine nx ?_
    refine ⟨_, hC _ _ _ g, ?_⟩
    refine nx ?_
    first | rw [le_false.2 (by omega)] | rw [lt_false.2 (by omega)] | rw [eq_false'.2 this] | rw [ne_false'.2 (by omega)]
    refine nx ?_
    refine ⟨_, hC _ _ _ g2, ?_⟩
    exact nx trivial

theorem max10_good (a b : RL) {k : Nat} (ha : Rn k a) (hb : Rn k b) (hk : 0 < k) (hk2 : k < 68719476736) :
    Good P F.penumbraref10_Max [.d (.agg (dR Ψ a)), .d (.agg (dR Ψ b))] [] (.d (.agg (dR Ψ (Ψ .cr (rmax (rv a) (rv b)))))) [] := by
  refine G.penumbraref10_Max fun C C2 hC hC2 => ?_
  have g := cmp3_good a b ha hb hk hk hk2 hk2
  have g1 := read3_good a ha (by omega)
  have g2 := read3_good b hb (by omega)
  have z := @cI_nonneg (rv a) (rv b)
  obtain ⟨R, hR⟩ : ∃ R, R = Ψ .cr (rmax (rv a) (rv b)) := ⟨_, rfl⟩
  rw [← hR]
  by_cases c : rv b ≤ rv a
  · have e : R = Ψ .cr (rv a) := by rw [hR, rmax, if_pos c]
    have := z.2 c
    rw [← e] at g1
    clear e hR z
    generalize Ψ .cI (rv a) (rv b) = i at *
    refine nx ?_
    refine ⟨_, hC _ _ _ g, ?_⟩
    refine nx ?_
    first | rw [le_true.2 this] | rw [lt_true.2 this] | rw [eq_true'.2 this] | rw [ne_true'.2 this]
    refine nx ?_
    refine ⟨_, hC _ _ _ g1, ?_⟩
    exact nx trivial
  · have e : R = Ψ .cr (rv b) := by rw [hR, rmax, if_neg c]
    have := mt z.1 c
    rw [← e] at g2
    clear e hR z
    generalize Ψ .cI (rv a) (rv b) = i at *
    refine nx ?_
    refine ⟨_, hC _ _ _ g, ?_⟩
    refine nx ?_
    first | rw [le_false.2 (by omega)] | rw [lt_false.2 (by omega)] | rw [eq_false'.2 this] | rw [ne_false'.2 (by omega)]
    refine nx ?_
    refine ⟨_, hC _ _ _ g2, ?_⟩
    exact nx trivial

theorem holds10_good (b : BL) (p : VL) {k : Nat} (hb : Bn k b) (hp : Vn k p) (hk : 0 < k) (hk2 : k < 68719476736) :
    Good P F.penumbraref10_Holds [.d (.agg (dB Ψ b)), .d (.agg (dV Ψ p))] [] (.d (.b (decide (holds (bv b) (vv p))))) [] := by
  refine G.penumbraref10_Holds fun C C2 hC hC2 => ?_
  have g1 := between3_good p.x b.lo.x b.hi.x hp.x hb.lo.x hb.hi.x hk hk2
  have g2 := between3_good p.y b.lo.y b.hi.y hp.y hb.lo.y hb.hi.y hk hk2
  have g3 := between3_good p.z b.lo.z b.hi.z hp.z hb.lo.z hb.hi.z hk hk2
  obtain ⟨R, hR⟩ : ∃ R, R = decide (holds (bv b) (vv p)) := ⟨_, rfl⟩
  rw [← hR]
  rw [decide_holds] at hR
  have e1 : decide (btw (vv p).x (bv b).lo.x (bv b).hi.x) = decide (rv b.lo.x ≤ rv p.x ∧ rv p.x ≤ rv b.hi.x) := decide_eq_decide.2 Iff.rfl
  have e2 : decide (btw (vv p).y (bv b).lo.y (bv b).hi.y) = decide (rv b.lo.y ≤ rv p.y ∧ rv p.y ≤ rv b.hi.y) := decide_eq_decide.2 Iff.rfl
  have e3 : decide (btw (vv p).z (bv b).lo.z (bv b).hi.z) = decide (rv b.lo.z ≤ rv p.z ∧ rv p.z ≤ rv b.hi.z) := decide_eq_decide.2 Iff.rfl
  rw [e1, e2, e3] at hR
  clear e1 e2 e3
  generalize decide (rv b.lo.x ≤ rv p.x ∧ rv p.x ≤ rv b.hi.x) = t1 at *
  generalize decide (rv b.lo.y ≤ rv p.y ∧ rv p.y ≤ rv b.hi.y) = t2 at *
  generalize decide (rv b.lo.z ≤ rv p.z ∧ rv p.z ≤ rv b.hi.z) = t3 at *
  subst hR
  cases t1
  · refine nx ?_
    refine ⟨_, hC _ _ _ g1, ?_⟩
    exact nx trivial
  cases t2
  · refine nx ?_
    refine ⟨_, hC _ _ _ g1, ?_⟩
    refine nx ?_
    refine ⟨_, hC _ _ _ g2, ?_⟩
    exact nx trivial
  cases t3
  all_goals
    refine nx ?_
    refine ⟨_, hC _ _ _ g1, ?_⟩
    refine nx ?_
    refine ⟨_, hC _ _ _ g2, ?_⟩
    refine nx ?_
    refine ⟨_, hC _ _ _ g3, ?_⟩
    exact nx trivial
end Go.K.S
end
section
/-
  Contracts of the reference for boxes: join, Join, Around.
-/
namespace Go.K.S
open Go Go.K
set_option maxHeartbeats 8000000
set_option maxRecDepth 20000
set_option linter.unusedVariables false
set_option linter.unusedSimpArgs false

theorem join2_good (a b : BL) {k : Nat} (ha : Bn k a) (hb : Bn k b) (hk : 0 < k) (hk2 : k < 68719476736) :
    Good P F.penumbraref10_join [.d (.agg (dB Ψ a)), .d (.agg (dB Ψ b))] [] (.d (.agg (dB Ψ (Ψ .cB (bjoin (bv a) (bv b)))))) [] := by
  refine G.penumbraref10_join fun C C2 hC hC2 => ?_
  have g1 := min10_good a.lo.x b.lo.x ha.lo.x hb.lo.x hk hk2
  have g2 := min10_good a.lo.y b.lo.y ha.lo.y hb.lo.y hk hk2
  have g3 := min10_good a.lo.z b.lo.z ha.lo.z hb.lo.z hk hk2
  have g4 := max10_good a.hi.x b.hi.x ha.hi.x hb.hi.x hk hk2
  have g5 := max10_good a.hi.y b.hi.y ha.hi.y hb.hi.y hk hk2
  have g6 := max10_good a.hi.z b.hi.z ha.hi.z hb.hi.z hk hk2
  have e : Ψ .cB (bjoin (bv a) (bv b)) = ⟨⟨Ψ .cr (rmin (rv a.lo.x) (rv b.lo.x)), Ψ .cr (rmin (rv a.lo.y) (rv b.lo.y)), Ψ .cr (rmin (rv a.lo.z) (rv b.lo.z))⟩, ⟨Ψ .cr (rmax (rv a.hi.x) (rv b.hi.x)), Ψ .cr (rmax (rv a.hi.y) (rv b.hi.y)), Ψ .cr (rmax (rv a.hi.z) (rv b.hi.z))⟩⟩ := rfl
  rw [e]
  generalize Ψ .cr (rmin (rv a.lo.x) (rv b.lo.x)) = r1 at *
  generalize Ψ .cr (rmin (rv a.lo.y) (rv b.lo.y)) = r2 at *
  generalize Ψ .cr (rmin (rv a.lo.z) (rv b.lo.z)) = r3 at *
  generalize Ψ .cr (rmax (rv a.hi.x) (rv b.hi.x)) = r4 at *
  generalize Ψ .cr (rmax (rv a.hi.y) (rv b.hi.y)) = r5 at *
  generalize Ψ .cr (rmax (rv a.hi.z) (rv b.hi.z)) = r6 at *
  refine nx ?_
  refine ⟨_, hC _ _ _ g1, ?_⟩
  refine nx ?_
  refine ⟨_, hC _ _ _ g2, ?_⟩
  refine nx ?_
  refine ⟨_, hC _ _ _ g3, ?_⟩
  refine nx ?_
  refine ⟨_, hC _ _ _ g4, ?_⟩
  refine nx ?_
  refine ⟨_, hC _ _ _ g5, ?_⟩
  refine nx ?_
  refine ⟨_, hC _ _ _ g6, ?_⟩
  exact nx trivial

theorem join10_good (l : List BL) {k : Nat} (hl : ∀ b, b ∈ l → Bn k b) (hln : l.length < 68719476736) (hk : 0 < k) (hk2 : k < 68719476736) :
    Good P F.penumbraref10_Join [.d (.sl (Ψ .dBs l))] [] (.d (.agg (dB Ψ (Ψ .cB (bjoins l))))) [] := by
  refine G.penumbraref10_Join fun C C2 hC hC2 => ?_
  have hq : ∀ i, Bq k (bjoins (l.take i)) := fun i => Bq_joins hk _ (fun b hb => hl b (List.mem_of_mem_take hb))
  have hst : ∀ i r, l[i]? = some r → 0 < i → bjoins (l.take (i + 1)) = bjoin (bjoins (l.take i)) (bv r) := fun i r hr hi => by
    have hlt := (List.getElem?_eq_some_iff.1 hr).1
    rw [take_succ_of hr, bjoins_snoc _ _ (fun c => by
      have := congrArg List.length c
      rw [List.length_take, List.length_nil] at this
      omega)]
  have hst0 : ∀ r, l[0]? = some r → bjoins (l.take 1) = bv r := fun r hr => by rw [take_succ_of hr]; rfl
  have hlast : bjoins (l.take l.length) = bjoins l := by rw [List.take_length]
  have hnil : l.length = 0 → bjoins l = b0 := fun h => by rw [List.eq_nil_of_length_eq_zero h]; rfl
  obtain ⟨R0, hR0⟩ : ∃ R, R = bjoins l := ⟨_, rfl⟩
  rw [← hR0] at hlast hnil ⊢
  obtain ⟨S, hS⟩ : ∃ S : Nat → B3, S = fun i => bjoins (l.take i) := ⟨_, rfl⟩
  have hSe : ∀ i, bjoins (l.take i) = S i := fun i => by rw [hS]
  simp only [hSe] at hq hst hst0 hlast
  clear hSe hS hR0
  refine nx ?_
  refine BrG.split (fun h => ?_) (fun h => ?_)
  · have hl0 : l.length = 0 := by have := h; simp only [wz] at this ⊢; omega
    have := hnil hl0
    subst this
    have g := zero5_good
    have e : Ψ .cB b0 = ⟨Ψ .cV v0, Ψ .cV v0⟩ := rfl
    rw [e]
    generalize Ψ .cV v0 = Z at *
    refine nx ?_
    refine ⟨_, hC _ _ _ g, ?_⟩
    refine nx ?_
    refine ⟨_, hC _ _ _ g, ?_⟩
    exact nx trivial
  · have hl0 : 0 < l.length := by have : l.length ≠ 0 := by have := h; simp only [wz] at this ⊢; omega
                                  omega
    obtain ⟨r, hr⟩ : ∃ r, l[0]? = some r := ⟨_, List.getElem?_eq_getElem hl0⟩
    have hb := hl r (List.mem_of_getElem? hr)
    have g := join2_good r r hb hb hk hk2
    rw [bjoin_self, ← hst0 r hr] at g
    refine nx ?_
    refine (idx_dBs 0 r rfl hr rfl ?_).2
    refine nx ?_
    refine (idx_dBs 0 r rfl hr rfl ?_).2
    refine nx ?_
    refine ⟨_, hC _ _ _ g, ?_⟩
    refine nx ?_
    refine LoopG.intro (σ := Nat) [0, 2, 3, 4] [1050, 1051]
      (fun i => [.d (.sl (Ψ .dBs l)), .ptr 1050 0, .ptr 1051 0, .d (.i .i64 (Ω .ci i))])
      (fun i => [.var [.d (.b false), .nil, .nil, .d (.b false), .nil, .nil, .d (.b false), .nil, .nil, .d (.b false), .nil, .nil, .d (.b false), .nil, .nil, .d (.b false), .nil, .nil], .var ((dB Ψ (Ψ .cB (S i))).map V.d)])
      (fun i => i ≤ l.length ∧ 0 < i)
      (fun i => l.length - i) 1 [1000, 1307] ⟨hl0, by omega⟩ ⟨rfl, rfl, rfl⟩ ?_
    rintro i ⟨hi, hi0⟩
    refine nx ?_
    refine BrG.split (fun h => ?_) (fun h => ?_)
    · have hlen : i < l.length := by have := h; simp only [wz] at this; omega
      obtain ⟨r, hr⟩ : ∃ r, l[i]? = some r := ⟨_, List.getElem?_eq_getElem hlen⟩
      have hb := hl r (List.mem_of_getElem? hr)
      have g := join2_good (Ψ .cB (S i)) r (Bn_cB (hq i)) hb hk hk2
      rw [bv_cB, ← hst i r hr hi0] at g
      refine nx ?_
      refine idx_dBs i r rfl hr rfl ?_
      refine nx ?_
      refine ⟨_, hC _ _ _ g, ?_⟩
      refine nx ?_
      refine ⟨i + 1, [1050, 1051], ⟨hlen, by omega⟩, by omega, rfl, ?_, rfl⟩
      refine Eq.trans (b := [.d (.sl (Ψ .dBs l)), .ptr 1050 0, .ptr 1051 0, .d (.i .i64 _)]) rfl ?_
      rw [wrap_succ (by omega)]
    · have hlen : i = l.length := by have := h; simp only [wz] at this; omega
      rw [← hlen] at hlast
      subst hlast
      exact nx trivial

theorem cells18' (b : BL) : ∀ u, u ∈ [D.agg (dB Ψ b)] → u.cells.length = 18 := fun u h => by
  rw [List.mem_singleton.1 h]; rfl

theorem around10_good (l : List VL) {k : Nat} (hl : ∀ b, b ∈ l → Vn k b) (hln : l.length < 68719476736) (hk : 0 < k) (hk2 : k < 68719476736) :
    Good P F.penumbraref10_Around [.d (.sl (Ψ .dVs l))] [] (.d (.agg (dB Ψ (Ψ .cB (bjoins (l.map pbox)))))) [] := by
  refine G.penumbraref10_Around fun C C2 hC hC2 => ?_
  have gj := join10_good (l.map pbox) (k := k) (fun b hb => by
    obtain ⟨v, hv, rfl⟩ := List.mem_map.1 hb
    exact ⟨hl v hv, hl v hv⟩) (by simp only [List.length_map]; exact hln) hk hk2
  obtain ⟨R, hR⟩ : ∃ R, R = Ψ .cB (bjoins (l.map pbox)) := ⟨_, rfl⟩
  rw [← hR] at gj ⊢
  clear hR
  have hst : ∀ i r, l[i]? = some r → (l.take (i + 1)).map pbox = (l.take i).map pbox ++ [pbox r] := fun i r hr => by rw [take_succ_of hr]; simp
  have hlast : (l.take l.length).map pbox = l.map pbox := by rw [List.take_length]
  have hz : (l.take 0).map pbox = [] := rfl
  have hlen : ∀ i, i ≤ l.length → ((l.take i).map pbox).length = i := fun i hi => by simp; omega
  obtain ⟨S, hS⟩ : ∃ S : Nat → List BL, S = fun i => (l.take i).map pbox := ⟨_, rfl⟩
  have hSe : ∀ i, (l.take i).map pbox = S i := fun i => by rw [hS]
  simp only [hSe] at hst hlast hz hlen
  clear hSe hS
  rw [← hlast] at gj
  refine nx ?_
  refine LoopG.intro (σ := Nat) [0, 2, 3, 4] [1050, 1051]
      (fun i => [.d (.sl (Ψ .dVs l)), .ptr 1050 0, .own 1051 18, .d (.i .i64 (Ω .ci i))])
      (fun i => [.var [.d (.b false), .nil, .nil, .d (.b false), .nil, .nil, .d (.b false), .nil, .nil, .d (.b false), .nil, .nil, .d (.b false), .nil, .nil, .d (.b false), .nil, .nil], .row true T.api_Box 18 (Ψ .dBs (S i))])
      (fun i => i ≤ l.length)
      (fun i => l.length - i) 0 [1000, 1100] (Nat.zero_le _) ⟨rfl, rfl, ?_⟩ ?_
  · rw [hz]
    rfl
  intro i hi
  have hsl := hlen i hi
  refine nx ?_
  refine BrG.split (fun h => ?_) (fun h => ?_)
  · have hlt : i < l.length := by have := h; simp only [wz] at this; omega
    obtain ⟨r, hr⟩ : ∃ r, l[i]? = some r := ⟨_, List.getElem?_eq_getElem hlt⟩
    have e := hst _ r hr
    refine nx ?_
    refine idx_dVs i r rfl hr rfl ?_
    refine nx ?_
    refine idx_dVs i r rfl hr rfl ?_
    refine nx ?_
    refine ⟨cells18' (pbox r), (by simp only [wz, slen_dBs]; omega), i + 1, [1050, 1511], hlt, by omega, rfl, ?_, ?_⟩
    · refine Eq.trans (b := [.d (.sl (Ψ .dVs l)), .ptr 1050 0, .own 1051 18, .d (.i .i64 _)]) rfl ?_
      rw [wrap_succ (by omega)]
    · rw [e, ← scat_dBs]
      rfl
  · have hl0 : i = l.length := by have := h; simp only [wz] at this; omega
    rw [← hl0] at gj
    refine nx ?_
    refine ⟨_, hC _ _ _ gj, ?_⟩
    exact nx trivial
end Go.K.S
end
section
/-
  Contracts of vec: Of, Sub, Scale, Dot, minor, Cross, Sum.
-/
namespace Go.K.S
open Go Go.K
set_option maxHeartbeats 4000000
set_option maxRecDepth 20000
set_option linter.unusedVariables false
set_option linter.unusedSimpArgs false

theorem sum2_good (a b : RL) {k : Nat} (ha : Rn k a) (hb : Rn k b) (hk : 0 < k) (hk2 : k < 17179869184) :
    Good P F.rat_Sum [.d (.sl [.agg (dR Ψ a), .agg (dR Ψ b)])] [] (.d (.agg (dR Ψ (Ψ .cr (rv a + rv b))))) [] := by
  have := sum_good [a, b] (k := k) (fun r h => by rcases mem2 h with rfl | rfl <;> assumption) hk (by simp only [List.length_cons, List.length_nil]; omega)
  rw [rsum2] at this
  exact this
theorem sum3_good (a b c : RL) {k : Nat} (ha : Rn k a) (hb : Rn k b) (hc : Rn k c) (hk : 0 < k) (hk2 : k < 17179869183) :
    Good P F.rat_Sum [.d (.sl [.agg (dR Ψ a), .agg (dR Ψ b), .agg (dR Ψ c)])] [] (.d (.agg (dR Ψ (Ψ .cr (rv a + rv b + rv c))))) [] := by
  have := sum_good [a, b, c] (k := k) (fun r h => by rcases mem3 h with rfl | rfl | rfl <;> assumption) hk (by simp only [List.length_cons, List.length_nil]; omega)
  rw [rsum3] at this
  exact this
theorem prod2_good (a b : RL) {k : Nat} (ha : Rn k a) (hb : Rn k b) (hk : 0 < k) (hk2 : k < 17179869184) :
    Good P F.rat_Product [.d (.sl [.agg (dR Ψ a), .agg (dR Ψ b)])] [] (.d (.agg (dR Ψ (Ψ .cr (rv a * rv b))))) [] := by
  have := product_good [a, b] (k := k) (fun r h => by rcases mem2 h with rfl | rfl <;> assumption) hk (by simp only [List.length_cons, List.length_nil]; omega)
  rw [rprod2] at this
  exact this

theorem vof_good (x y z : Int) (h1 : -9223372036854775808 ≤ x) (h2 : x ≤ 9223372036854775807) (h3 : -9223372036854775808 ≤ y) (h4 : y ≤ 9223372036854775807) (h5 : -9223372036854775808 ≤ z) (h6 : z ≤ 9223372036854775807) :
    Good P F.vec_Of [.d (.i .i64 x), .d (.i .i64 y), .d (.i .i64 z)] [] (.d (.agg (dV Ψ (Ψ .cV ⟨x, y, z⟩)))) [] := by
  refine G.vec_Of fun C C2 hC hC2 => ?_
  have g1 := rof_good x 1 h1 h2 (by omega) (by omega)
  have g2 := rof_good y 1 h3 h4 (by omega) (by omega)
  have g3 := rof_good z 1 h5 h6 (by omega) (by omega)
  have e : ∀ n : Int, (n : Rat) / ((1 : Int) : Rat) = n := fun n => by
    have : ((1 : Int) : Rat) = 1 := rfl
    rw [this]; grind
  rw [e] at g1 g2 g3
  have hV : Ψ .cV ⟨x, y, z⟩ = ⟨Ψ .cr x, Ψ .cr y, Ψ .cr z⟩ := rfl
  rw [hV]
  generalize Ψ .cr (x : Rat) = X at *
  generalize Ψ .cr (y : Rat) = Y at *
  generalize Ψ .cr (z : Rat) = Z at *
  refine nx ?_
  refine ⟨_, hC _ _ _ g1, ?_⟩
  refine nx ?_
  refine ⟨_, hC _ _ _ g2, ?_⟩
  refine nx ?_
  refine ⟨_, hC _ _ _ g3, ?_⟩
  exact nx trivial

theorem vsub_good (a b : VL) {k : Nat} (ha : Vn k a) (hb : Vn k b) (hk : 0 < k) (hk2 : k < 68719476736) :
    Good P F.vec_Sub [.d (.agg (dV Ψ a)), .d (.agg (dV Ψ b))] [] (.d (.agg (dV Ψ (Ψ .cV (vsub (vv a) (vv b)))))) [] := by
  refine G.vec_Sub fun C C2 hC hC2 => ?_
  have g1 := rsub_good a.x b.x ha.x hb.x hk hk hk2 hk2
  have g2 := rsub_good a.y b.y ha.y hb.y hk hk hk2 hk2
  have g3 := rsub_good a.z b.z ha.z hb.z hk hk hk2 hk2
  have hV : Ψ .cV (vsub (vv a) (vv b)) = ⟨Ψ .cr (rv a.x - rv b.x), Ψ .cr (rv a.y - rv b.y), Ψ .cr (rv a.z - rv b.z)⟩ := rfl
  rw [hV]
  generalize Ψ .cr (rv a.x - rv b.x) = X at *
  generalize Ψ .cr (rv a.y - rv b.y) = Y at *
  generalize Ψ .cr (rv a.z - rv b.z) = Z at *
  refine nx ?_
  refine ⟨_, hC _ _ _ g1, ?_⟩
  refine nx ?_
  refine ⟨_, hC _ _ _ g2, ?_⟩
  refine nx ?_
  refine ⟨_, hC _ _ _ g3, ?_⟩
  exact nx trivial

theorem vscale_good (s : RL) (b : VL) {k : Nat} (ha : Rn k s) (hb : Vn k b) (hk : 0 < k) (hk2 : k < 17179869184) :
    Good P F.vec_Scale [.d (.agg (dR Ψ s)), .d (.agg (dV Ψ b))] [] (.d (.agg (dV Ψ (Ψ .cV (vmul (rv s) (vv b)))))) [] := by
  refine G.vec_Scale fun C C2 hC hC2 => ?_
  have g1 := prod2_good s b.x ha hb.x hk hk2
  have g2 := prod2_good s b.y ha hb.y hk hk2
  have g3 := prod2_good s b.z ha hb.z hk hk2
  have hV : Ψ .cV (vmul (rv s) (vv b)) = ⟨Ψ .cr (rv s * rv b.x), Ψ .cr (rv s * rv b.y), Ψ .cr (rv s * rv b.z)⟩ := rfl
  rw [hV]
  generalize Ψ .cr (rv s * rv b.x) = X at *
  generalize Ψ .cr (rv s * rv b.y) = Y at *
  generalize Ψ .cr (rv s * rv b.z) = Z at *
  refine nx ?_
  refine ⟨_, hC _ _ _ g1, ?_⟩
  refine nx ?_
  refine ⟨_, hC _ _ _ g2, ?_⟩
  refine nx ?_
  refine ⟨_, hC _ _ _ g3, ?_⟩
  exact nx trivial

theorem vdot_good (a b : VL) {k : Nat} (ha : Vn k a) (hb : Vn k b) (hk : 0 < k) (hk2 : k < 8589934590) :
    Good P F.vec_Dot [.d (.agg (dV Ψ a)), .d (.agg (dV Ψ b))] [] (.d (.agg (dR Ψ (Ψ .cr (vdot (vv a) (vv b)))))) [] := by
  refine G.vec_Dot fun C C2 hC hC2 => ?_
  have g1 := prod2_good a.x b.x ha.x hb.x hk (by omega)
  have g2 := prod2_good a.y b.y ha.y hb.y hk (by omega)
  have g3 := prod2_good a.z b.z ha.z hb.z hk (by omega)
  have q1 := Rn_cr.2 (Qn_mul (Qn_rv ha.x hk) (Qn_rv hb.x hk) (by omega))
  have q2 := Rn_cr.2 (Qn_mul (Qn_rv ha.y hk) (Qn_rv hb.y hk) (by omega))
  have q3 := Rn_cr.2 (Qn_mul (Qn_rv ha.z hk) (Qn_rv hb.z hk) (by omega))
  have g4 := sum3_good _ _ _ q1 q2 q3 (by omega) (by omega)
  rw [rv_cr, rv_cr, rv_cr] at g4
  have hV : vdot (vv a) (vv b) = rv a.x * rv b.x + rv a.y * rv b.y + rv a.z * rv b.z := rfl
  rw [hV]
  generalize Ψ .cr (rv a.x * rv b.x + rv a.y * rv b.y + rv a.z * rv b.z) = W at *
  generalize Ψ .cr (rv a.x * rv b.x) = X at *
  generalize Ψ .cr (rv a.y * rv b.y) = Y at *
  generalize Ψ .cr (rv a.z * rv b.z) = Z at *
  refine nx ?_
  refine ⟨_, hC _ _ _ g1, ?_⟩
  refine nx ?_
  refine ⟨_, hC _ _ _ g2, ?_⟩
  refine nx ?_
  refine ⟨_, hC _ _ _ g3, ?_⟩
  refine nx ?_
  refine ⟨_, hC _ _ _ g4, ?_⟩
  exact nx trivial

theorem minor_good (a b c d : RL) {k : Nat} (ha : Rn k a) (hb : Rn k b) (hc : Rn k c) (hd : Rn k d) (hk : 0 < k) (hk2 : k < 17179869184) :
    Good P F.vec_minor [.d (.agg (dR Ψ a)), .d (.agg (dR Ψ b)), .d (.agg (dR Ψ c)), .d (.agg (dR Ψ d))] [] (.d (.agg (dR Ψ (Ψ .cr (rv a * rv d - rv b * rv c))))) [] := by
  refine G.vec_minor fun C C2 hC hC2 => ?_
  have g1 := prod2_good a d ha hd hk hk2
  have g2 := prod2_good b c hb hc hk hk2
  have q1 := Rn_cr.2 (Qn_mul (Qn_rv ha hk) (Qn_rv hd hk) (by omega))
  have q2 := Rn_cr.2 (Qn_mul (Qn_rv hb hk) (Qn_rv hc hk) (by omega))
  have g4 := rsub_good _ _ q1 q2 (by omega) (by omega) (by omega) (by omega)
  rw [rv_cr, rv_cr] at g4
  generalize Ψ .cr (rv a * rv d - rv b * rv c) = W at *
  generalize Ψ .cr (rv a * rv d) = X at *
  generalize Ψ .cr (rv b * rv c) = Y at *
  refine nx ?_
  refine ⟨_, hC _ _ _ g1, ?_⟩
  refine nx ?_
  refine ⟨_, hC _ _ _ g2, ?_⟩
  refine nx ?_
  refine ⟨_, hC _ _ _ g4, ?_⟩
  exact nx trivial

theorem vcross_good (a b : VL) {k : Nat} (ha : Vn k a) (hb : Vn k b) (hk : 0 < k) (hk2 : k < 17179869184) :
    Good P F.vec_Cross [.d (.agg (dV Ψ a)), .d (.agg (dV Ψ b))] [] (.d (.agg (dV Ψ (Ψ .cV (vcross (vv a) (vv b)))))) [] := by
  refine G.vec_Cross fun C C2 hC hC2 => ?_
  have g1 := minor_good a.y a.z b.y b.z ha.y ha.z hb.y hb.z hk hk2
  have g2 := minor_good a.z a.x b.z b.x ha.z ha.x hb.z hb.x hk hk2
  have g3 := minor_good a.x a.y b.x b.y ha.x ha.y hb.x hb.y hk hk2
  have hV : Ψ .cV (vcross (vv a) (vv b)) = ⟨Ψ .cr (rv a.y * rv b.z - rv a.z * rv b.y), Ψ .cr (rv a.z * rv b.x - rv a.x * rv b.z), Ψ .cr (rv a.x * rv b.y - rv a.y * rv b.x)⟩ := rfl
  rw [hV]
  generalize Ψ .cr (rv a.y * rv b.z - rv a.z * rv b.y) = X at *
  generalize Ψ .cr (rv a.z * rv b.x - rv a.x * rv b.z) = Y at *
  generalize Ψ .cr (rv a.x * rv b.y - rv a.y * rv b.x) = Z at *
  refine nx ?_
  refine ⟨_, hC _ _ _ g1, ?_⟩
  refine nx ?_
  refine ⟨_, hC _ _ _ g2, ?_⟩
  refine nx ?_
  refine ⟨_, hC _ _ _ g3, ?_⟩
  exact nx trivial
end Go.K.S
end
section
/-
  Contract: the fixed calls of the laws on boxes.
-/
namespace Go.K
open Go
theorem Qn_int {n : Int} (h : n.natAbs < 4294967296) : Qn 1 (n : Rat) := ⟨by simpa using h, by simp⟩
end Go.K
namespace Go.K.S
open Go Go.K
set_option maxHeartbeats 8000000
set_option maxRecDepth 20000
set_option linter.unusedVariables false
set_option linter.unusedSimpArgs false

def cube3 : B3 := ⟨⟨((0 : Int) : Rat), ((0 : Int) : Rat), ((0 : Int) : Rat)⟩, ⟨((1 : Int) : Rat), ((1 : Int) : Rat), ((1 : Int) : Rat)⟩⟩
def half : Rat := ((1 : Int) : Rat) / ((2 : Int) : Rat)
def o1 : V3 := ⟨((-1 : Int) : Rat) / ((1 : Int) : Rat), half, half⟩
def o2 : V3 := ⟨half, half, half⟩
def v200 : V3 := ⟨((2 : Int) : Rat), ((0 : Int) : Rat), ((0 : Int) : Rat)⟩
def v100 : V3 := ⟨((1 : Int) : Rat), ((0 : Int) : Rat), ((0 : Int) : Rat)⟩
def v000 : V3 := ⟨((0 : Int) : Rat), ((0 : Int) : Rat), ((0 : Int) : Rat)⟩
def v101 : V3 := ⟨((1 : Int) : Rat), ((0 : Int) : Rat), ((1 : Int) : Rat)⟩
theorem c1 : clipS o1 v200 cube3 = ⟨half, 1, false⟩ := by decide +kernel
theorem c2 : clipOk o1 v200 cube3 = true := by decide +kernel
theorem c3 : (clipS o2 v000 cube3).op = true := by decide +kernel
theorem c4 : clipOk o2 v000 cube3 = true := by decide +kernel
theorem c5 : clipOk v200 v100 cube3 = false := by decide +kernel
theorem c6 : holds cube3 v101 := by decide +kernel

theorem cube_good : Good P F.penumbralaw10_cube [] [] (.d (.agg (dB Ψ (Ψ .cB cube3)))) [] := by
  refine G.penumbralaw10_cube fun C C2 hC hC2 => ?_
  have g1 := vof_good 0 0 0 (by omega) (by omega) (by omega) (by omega) (by omega) (by omega)
  have g2 := vof_good 1 1 1 (by omega) (by omega) (by omega) (by omega) (by omega) (by omega)
  have e : Ψ .cB cube3 = ⟨Ψ .cV ⟨((0 : Int) : Rat), ((0 : Int) : Rat), ((0 : Int) : Rat)⟩, Ψ .cV ⟨((1 : Int) : Rat), ((1 : Int) : Rat), ((1 : Int) : Rat)⟩⟩ := rfl
  rw [e]
  generalize Ψ .cV ⟨((0 : Int) : Rat), ((0 : Int) : Rat), ((0 : Int) : Rat)⟩ = X at *
  generalize Ψ .cV ⟨((1 : Int) : Rat), ((1 : Int) : Rat), ((1 : Int) : Rat)⟩ = Y at *
  refine nx ?_
  refine ⟨_, hC _ _ _ g1, ?_⟩
  refine nx ?_
  refine ⟨_, hC _ _ _ g2, ?_⟩
  exact nx trivial

theorem fixed10_good : Good P F.penumbralaw10_fixed [] [] (.d (.b true)) [] := by
  refine G.penumbralaw10_fixed fun C C2 hC hC2 => ?_
  have hh := rof_good 1 2 (by omega) (by omega) (by omega) (by omega)
  have hm := rof_good (-1) 1 (by omega) (by omega) (by omega) (by omega)
  have g200 := vof_good 2 0 0 (by omega) (by omega) (by omega) (by omega) (by omega) (by omega)
  have g000 := vof_good 0 0 0 (by omega) (by omega) (by omega) (by omega) (by omega) (by omega)
  have g100 := vof_good 1 0 0 (by omega) (by omega) (by omega) (by omega) (by omega) (by omega)
  have g101 := vof_good 1 0 1 (by omega) (by omega) (by omega) (by omega) (by omega) (by omega)
  have gc := cube_good
  have gh3 := of3_good 1 2 (by omega) (by omega) (by omega) (by omega)
  have go3 := one3_good
  have qh : Qn 2 half := Qn_of (by decide) (by decide)
  have qm : Qn 2 (((-1 : Int) : Rat) / ((1 : Int) : Rat)) := Qn_of (by decide) (by decide)
  have q0 : Qn 2 ((0 : Int) : Rat) := (Qn_int (by decide)).mono (by omega)
  have q1 : Qn 2 ((1 : Int) : Rat) := (Qn_int (by decide)).mono (by omega)
  have q2 : Qn 2 ((2 : Int) : Rat) := (Qn_int (by decide)).mono (by omega)
  have b3 : Bn 2 (Ψ .cB cube3) := Bn_cB ⟨⟨q0, q0, q0⟩, ⟨q1, q1, q1⟩⟩
  have k1 := clip_good (Ψ .cV o1) (Ψ .cV v200) (Ψ .cB cube3) (k := 2) (Vn_cV ⟨qm, qh, qh⟩) (Vn_cV ⟨q2, q0, q0⟩) b3 (by omega) (by omega)
  have k2 := clip_good (Ψ .cV o2) (Ψ .cV v000) (Ψ .cB cube3) (k := 2) (Vn_cV ⟨qh, qh, qh⟩) (Vn_cV ⟨q0, q0, q0⟩) b3 (by omega) (by omega)
  have k3 := clip_good (Ψ .cV v200) (Ψ .cV v100) (Ψ .cB cube3) (k := 2) (Vn_cV ⟨q2, q0, q0⟩) (Vn_cV ⟨q1, q0, q0⟩) b3 (by omega) (by omega)
  have k4 := holds_good (Ψ .cB cube3) (Ψ .cV v101) (k := 2) b3 (Vn_cV ⟨q1, q0, q1⟩) (by omega)
  simp only [vv_cV, bv_cB] at k1 k2 k3 k4
  rw [c1, c2] at k1
  rw [c4] at k2
  rw [c5] at k3
  rw [decide_eq_true c6] at k4
  have i1 := is3_good (Ψ .cr half) (Ψ .cr half) (Rn_cr.2 qh) (Rn_cr.2 qh) (by omega) (by omega)
  have i2 := is3_good (Ψ .cr 1) (Ψ .cr 1) (Rn_cr.2 (Qn_one (k := 1) (by omega))) (Rn_cr.2 (Qn_one (k := 1) (by omega))) (by omega) (by omega)
  rw [decide_eq_true rfl] at i1 i2
  have a1 := around_good [] (k := 1) (fun _ h => by cases h) (by simp) (by omega) (by omega)
  have a2 := around10_good [] (k := 1) (fun _ h => by cases h) (by simp) (by omega) (by omega)
  have bz : Bn 1 (Ψ .cB (bjoins (([] : List VL).map pbox))) := Bn_cB (Bq_b0 (by omega))
  have a3 := is10_good _ _ bz bz (by omega) (by omega)
  rw [decide_eq_true rfl] at a3
  have e1 : cS Ψ ⟨half, 1, false⟩ = ⟨Ψ .cr half, Ψ .cr 1, false⟩ := rfl
  rw [e1] at k1
  have e2 : ((1 : Int) : Rat) / ((2 : Int) : Rat) = half := rfl
  rw [e2] at hh gh3
  have hop := c3
  have f1 : Ψ .cV o1 = ⟨Ψ .cr (((-1 : Int) : Rat) / ((1 : Int) : Rat)), Ψ .cr half, Ψ .cr half⟩ := rfl
  have f2 : Ψ .cV o2 = ⟨Ψ .cr half, Ψ .cr half, Ψ .cr half⟩ := rfl
  have f3 : Ψ .cV v200 = Ψ .cV ⟨((2 : Int) : Rat), ((0 : Int) : Rat), ((0 : Int) : Rat)⟩ := rfl
  have f4 : Ψ .cV v000 = Ψ .cV ⟨((0 : Int) : Rat), ((0 : Int) : Rat), ((0 : Int) : Rat)⟩ := rfl
  have f5 : Ψ .cV v100 = Ψ .cV ⟨((1 : Int) : Rat), ((0 : Int) : Rat), ((0 : Int) : Rat)⟩ := rfl
  have f6 : Ψ .cV v101 = Ψ .cV ⟨((1 : Int) : Rat), ((0 : Int) : Rat), ((1 : Int) : Rat)⟩ := rfl
  rw [f1] at k1
  rw [f2] at k2
  rw [← f3] at g200
  rw [← f4] at g000
  rw [← f5] at g100
  rw [← f6] at g101
  have s2 : cS Ψ (clipS o2 v000 cube3) = ⟨Ψ .cr (clipS o2 v000 cube3).from', Ψ .cr (clipS o2 v000 cube3).to', true⟩ := by rw [← hop]; rfl
  rw [s2] at k2
  have s3 : cS Ψ (clipS v200 v100 cube3) = ⟨Ψ .cr (clipS v200 v100 cube3).from', Ψ .cr (clipS v200 v100 cube3).to', (clipS v200 v100 cube3).op⟩ := rfl
  rw [s3] at k3
  generalize Ψ .cr (clipS o2 v000 cube3).from' = x1 at *
  generalize Ψ .cr (clipS o2 v000 cube3).to' = x2 at *
  generalize Ψ .cr (clipS v200 v100 cube3).from' = x3 at *
  generalize Ψ .cr (clipS v200 v100 cube3).to' = x4 at *
  generalize (clipS v200 v100 cube3).op = x5 at *
  clear s2 s3 f1 f2 f3 f4 f5 f6 e1 e2 hop qh qm q0 q1 q2 b3 bz
  generalize Ψ .cr half = H at *
  generalize Ψ .cr (((-1 : Int) : Rat) / ((1 : Int) : Rat)) = M at *
  generalize Ψ .cV v200 = w1 at *
  generalize Ψ .cV v000 = w2 at *
  generalize Ψ .cV v100 = w3 at *
  generalize Ψ .cV v101 = w4 at *
  generalize Ψ .cB cube3 = Q at *
  generalize Ψ .cB (bjoins (([] : List VL).map pbox)) = Z at *
  generalize Ψ .cr 1 = O at *
  refine nx ?_
  refine ⟨_, hC _ _ _ hh, ?_⟩
  refine nx ?_
  refine ⟨_, hC _ _ _ hm, ?_⟩
  refine nx ?_
  refine ⟨_, hC _ _ _ g200, ?_⟩
  refine nx ?_
  refine ⟨_, hC _ _ _ gc, ?_⟩
  refine nx ?_
  refine ⟨_, hC _ _ _ k1, ?_⟩
  refine nx ?_
  refine ⟨_, hC _ _ _ g000, ?_⟩
  refine nx ?_
  refine ⟨_, hC _ _ _ gc, ?_⟩
  refine nx ?_
  refine ⟨_, hC _ _ _ k2, ?_⟩
  refine nx ?_
  refine ⟨_, hC _ _ _ g200, ?_⟩
  refine nx ?_
  refine ⟨_, hC _ _ _ g100, ?_⟩
  refine nx ?_
  refine ⟨_, hC _ _ _ gc, ?_⟩
  refine nx ?_
  refine ⟨_, hC _ _ _ k3, ?_⟩
  refine nx ?_
  refine ⟨_, hC _ _ _ gh3, ?_⟩
  refine nx ?_
  refine ⟨_, hC _ _ _ i1, ?_⟩
  refine nx ?_
  refine ⟨_, hC _ _ _ go3, ?_⟩
  refine nx ?_
  refine ⟨_, hC _ _ _ i2, ?_⟩
  refine nx ?_
  refine ⟨_, hC _ _ _ gc, ?_⟩
  refine nx ?_
  refine ⟨_, hC _ _ _ g101, ?_⟩
  refine nx ?_
  refine ⟨_, hC _ _ _ k4, ?_⟩
  refine nx ?_
  refine ⟨_, hC _ _ _ a1, ?_⟩
  refine nx ?_
  refine ⟨_, hC _ _ _ a2, ?_⟩
  refine nx ?_
  refine ⟨_, hC _ _ _ a3, ?_⟩
  exact nx trivial
end Go.K.S
end
section
/-
  The law BoxesLay, as a contract.
-/
namespace Go.K.S
open Go Go.K
set_option maxHeartbeats 8000000
set_option maxRecDepth 20000
set_option linter.unusedVariables false
set_option linter.unusedSimpArgs false

theorem boxesLay_good (l : List VL) (b : List BL) {k : Nat} (hl : ∀ v, v ∈ l → Vn k v) (hln : l.length < 68719476736) (hb : ∀ v, v ∈ b → Bn k v) (hbn : b.length < 68719476736) (hk : 0 < k) (hk2 : k < 68719476736) :
    Good P F.penumbralaw10_BoxesLay [.d (.sl (Ψ .dVs l)), .d (.sl (Ψ .dBs b))] [] (.d (.b true)) [] := by
  refine G.penumbralaw10_BoxesLay fun C C2 hC hC2 => ?_
  have gf := fixed10_good
  have g1 := around_good l hl hln hk hk2
  have g2 := around10_good l hl hln hk hk2
  have n1 : Bn k (Ψ .cB (bjoins (l.map pbox))) := Bn_cB (Bq_joins hk _ (fun b hb => by
    obtain ⟨v, hv, rfl⟩ := List.mem_map.1 hb
    exact ⟨hl v hv, hl v hv⟩))
  have g3 := is10_good _ _ n1 n1 (by omega) (by omega)
  rw [decide_eq_true rfl] at g3
  have g4 := join_good b hb hbn hk hk2
  have g5 := join10_good b hb hbn hk hk2
  have n2 : Bn k (Ψ .cB (bjoins b)) := Bn_cB (Bq_joins hk _ hb)
  have g6 := is10_good _ _ n2 n2 (by omega) (by omega)
  rw [decide_eq_true rfl] at g6
  clear n1 n2
  generalize Ψ .cB (bjoins (l.map pbox)) = X at *
  generalize Ψ .cB (bjoins b) = Y at *
  refine nx ?_
  refine ⟨_, hC _ _ _ gf, ?_⟩
  refine nx ?_
  refine ⟨_, hC _ _ _ g1, ?_⟩
  refine nx ?_
  refine ⟨_, hC _ _ _ g2, ?_⟩
  refine nx ?_
  refine ⟨_, hC _ _ _ g3, ?_⟩
  refine nx ?_
  refine ⟨_, hC _ _ _ g4, ?_⟩
  refine nx ?_
  refine ⟨_, hC _ _ _ g5, ?_⟩
  refine nx ?_
  refine ⟨_, hC _ _ _ g6, ?_⟩
  exact nx trivial
end Go.K.S
end
