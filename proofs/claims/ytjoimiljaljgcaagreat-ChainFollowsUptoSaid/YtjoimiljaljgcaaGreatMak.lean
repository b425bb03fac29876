/-
  Parts of the proof, joined by a program of this work: KRefHit, KAuto2, KBoxs, KBox, KJoin, KClip, KRef10, KRefJoin, KFix10, KRefClip, KLawClipQ, KLawBoxesClip, KLawBoxesWithin, KLawBoxesHold, KLawBoxesMeet.
-/
import Derived.Test.YtjoimiljaljgcaaGreatMaj
import Derived.Test.YtjoimiljaljgcaaGreatMaa
import Derived.Test.YtjoimiljaljgcaaGreatMai
set_option linter.unusedSimpArgs false
set_option linter.unusedVariables false
section
namespace Go.K
open Go
def hitR (o d : V3) (t : T3) : Option M3 :=
  if vdot (vcross (vsub t.b t.a) (vsub t.c t.a)) d = 0 then none
  else if vdot (vcross (vsub t.b t.a) (vsub t.c t.a)) (vsub t.a o) / vdot (vcross (vsub t.b t.a) (vsub t.c t.a)) d ≤ 0
    ∨ vdot (vcross (vsub (vadd o (vmul (vdot (vcross (vsub t.b t.a) (vsub t.c t.a)) (vsub t.a o) / vdot (vcross (vsub t.b t.a) (vsub t.c t.a)) d) d)) t.a) (vsub t.c t.a)) (vcross (vsub t.b t.a) (vsub t.c t.a)) / vdot (vcross (vsub t.b t.a) (vsub t.c t.a)) (vcross (vsub t.b t.a) (vsub t.c t.a)) < 0
    ∨ vdot (vcross (vsub t.b t.a) (vsub (vadd o (vmul (vdot (vcross (vsub t.b t.a) (vsub t.c t.a)) (vsub t.a o) / vdot (vcross (vsub t.b t.a) (vsub t.c t.a)) d) d)) t.a)) (vcross (vsub t.b t.a) (vsub t.c t.a)) / vdot (vcross (vsub t.b t.a) (vsub t.c t.a)) (vcross (vsub t.b t.a) (vsub t.c t.a)) < 0
    ∨ 1 < vdot (vcross (vsub (vadd o (vmul (vdot (vcross (vsub t.b t.a) (vsub t.c t.a)) (vsub t.a o) / vdot (vcross (vsub t.b t.a) (vsub t.c t.a)) d) d)) t.a) (vsub t.c t.a)) (vcross (vsub t.b t.a) (vsub t.c t.a)) / vdot (vcross (vsub t.b t.a) (vsub t.c t.a)) (vcross (vsub t.b t.a) (vsub t.c t.a))
      + vdot (vcross (vsub t.b t.a) (vsub (vadd o (vmul (vdot (vcross (vsub t.b t.a) (vsub t.c t.a)) (vsub t.a o) / vdot (vcross (vsub t.b t.a) (vsub t.c t.a)) d) d)) t.a)) (vcross (vsub t.b t.a) (vsub t.c t.a)) / vdot (vcross (vsub t.b t.a) (vsub t.c t.a)) (vcross (vsub t.b t.a) (vsub t.c t.a))
    then none
  else some ⟨vdot (vcross (vsub t.b t.a) (vsub t.c t.a)) (vsub t.a o) / vdot (vcross (vsub t.b t.a) (vsub t.c t.a)) d,
    vdot (vcross (vsub (vadd o (vmul (vdot (vcross (vsub t.b t.a) (vsub t.c t.a)) (vsub t.a o) / vdot (vcross (vsub t.b t.a) (vsub t.c t.a)) d) d)) t.a) (vsub t.c t.a)) (vcross (vsub t.b t.a) (vsub t.c t.a)) / vdot (vcross (vsub t.b t.a) (vsub t.c t.a)) (vcross (vsub t.b t.a) (vsub t.c t.a)),
    vdot (vcross (vsub t.b t.a) (vsub (vadd o (vmul (vdot (vcross (vsub t.b t.a) (vsub t.c t.a)) (vsub t.a o) / vdot (vcross (vsub t.b t.a) (vsub t.c t.a)) d) d)) t.a)) (vcross (vsub t.b t.a) (vsub t.c t.a)) / vdot (vcross (vsub t.b t.a) (vsub t.c t.a)) (vcross (vsub t.b t.a) (vsub t.c t.a))⟩
theorem det_down (b c d : V3) : vdot b (vcross d c) = - vdot (vcross b c) d := by unfold vdot vcross; grind
theorem sq_zero {x y z : Rat} (h : x * x + y * y + z * z = 0) : x = 0 ∧ y = 0 ∧ z = 0 := by
  have key : ∀ a : Rat, 0 ≤ a * a := fun a => by
    rcases (show a ≤ 0 ∨ 0 ≤ a by grind) with q | q
    · have := Rat.mul_le_mul_of_nonneg_left (a := 0) (b := -a) (c := -a) (by grind) (by grind); grind
    · have := Rat.mul_le_mul_of_nonneg_left (a := 0) (b := a) (c := a) (by grind) (by grind); grind
  have h1 := key x; have h2 := key y; have h3 := key z
  have e1 : x * x = 0 := by grind
  have e2 : y * y = 0 := by grind
  have e3 : z * z = 0 := by grind
  have f : ∀ a : Rat, a * a = 0 → a = 0 := fun a h => by grind
  exact ⟨f x e1, f y e2, f z e3⟩
theorem self_zero {n : V3} (h : vdot n n = 0) (d : V3) : vdot n d = 0 := by
  obtain ⟨h1, h2, h3⟩ := sq_zero h
  unfold vdot; rw [h1, h2, h3]; grind
theorem id_u (b c d f : V3) : vdot (vcross b c) (vcross b c) * vdot f (vcross d c) = vdot (vcross (vadd (vmul (vdot b (vcross d c)) f) (vmul (vdot (vcross b c) f) d)) c) (vcross b c) := by
  unfold vdot vcross vadd vmul; grind
theorem id_v (b c d f : V3) : vdot (vcross b c) (vcross b c) * vdot d (vcross f b) = vdot (vcross b (vadd (vmul (vdot b (vcross d c)) f) (vmul (vdot (vcross b c) f) d))) (vcross b c) := by
  unfold vdot vcross vadd vmul; grind
theorem id_s (b c f : V3) : vdot c (vcross f b) = vdot (vcross b c) f := by unfold vdot vcross; grind
theorem cross_mul (s : Rat) (p c : V3) : vcross (vmul s p) c = vmul s (vcross p c) := by unfold vcross vmul; simp only [V3.mk.injEq]; refine ⟨?_, ?_, ?_⟩ <;> grind
theorem cross_mul' (s : Rat) (p c : V3) : vcross c (vmul s p) = vmul s (vcross c p) := by unfold vcross vmul; simp only [V3.mk.injEq]; refine ⟨?_, ?_, ?_⟩ <;> grind
theorem dot_mul (s : Rat) (p c : V3) : vdot (vmul s p) c = s * vdot p c := by unfold vdot vmul; grind
theorem hit_law (o d : V3) (t : T3) : hitR o d t = hitS o d t := by
  unfold hitR hitS
  have hf : ∀ s : Rat, vsub (vadd o (vmul s d)) t.a = vadd (vsub o t.a) (vmul s d) := fun s => by unfold vsub vadd vmul; simp only [V3.mk.injEq]; refine ⟨?_, ?_, ?_⟩ <;> grind
  have hao : vdot (vcross (vsub t.b t.a) (vsub t.c t.a)) (vsub t.a o) = - vdot (vcross (vsub t.b t.a) (vsub t.c t.a)) (vsub o t.a) := by unfold vdot vsub; grind
  rw [hf, hao]
  generalize vsub t.b t.a = b
  generalize vsub t.c t.a = c
  generalize vsub o t.a = f
  have h1 := det_down b c d
  have hu := id_u b c d f
  have hv := id_v b c d f
  rw [id_s b c f]
  by_cases h0 : vdot (vcross b c) d = 0
  · rw [if_pos h0, if_pos (by rw [h1, h0]; grind)]
  have h0' : vdot b (vcross d c) ≠ 0 := fun h => h0 (by rw [h1] at h; grind)
  have hnn : vdot (vcross b c) (vcross b c) ≠ 0 := fun h => h0 (self_zero h d)
  rw [if_neg h0, if_neg h0']
  have es : - vdot (vcross b c) f / vdot (vcross b c) d = 1 / vdot b (vcross d c) * vdot (vcross b c) f := by rw [h1]; grind
  rw [es]
  have ep : vadd (vmul (vdot b (vcross d c)) f) (vmul (vdot (vcross b c) f) d) = vmul (vdot b (vcross d c)) (vadd f (vmul (1 / vdot b (vcross d c) * vdot (vcross b c) f) d)) := by
    unfold vadd vmul; simp only [V3.mk.injEq]; refine ⟨?_, ?_, ?_⟩ <;> grind
  rw [ep] at hu hv
  rw [cross_mul, dot_mul] at hu
  rw [cross_mul', dot_mul] at hv
  generalize vadd f (vmul (1 / vdot b (vcross d c) * vdot (vcross b c) f) d) = p at *
  generalize vdot (vcross b c) f = nf at *
  generalize vdot f (vcross d c) = fp at *
  generalize vdot d (vcross f b) = dq at *
  generalize vdot b (vcross d c) = det at *
  generalize vdot (vcross p c) (vcross b c) = pu at *
  generalize vdot (vcross b p) (vcross b c) = pv at *
  generalize vdot (vcross b c) (vcross b c) = nn at *
  have eu : pu / nn = 1 / det * fp := by grind
  have ev : pv / nn = 1 / det * dq := by grind
  rw [eu, ev]
  generalize 1 / det * nf = s
  generalize 1 / det * fp = u
  generalize 1 / det * dq = v
  by_cases c1 : u < 0
  · rw [if_pos (.inr (.inl c1)), if_pos c1]
  · rw [if_neg c1]
    by_cases c2 : v < 0 ∨ s ≤ 0 ∨ 1 < u + v
    · rw [if_pos c2, if_pos (c2.elim (fun h => .inr (.inr (.inl h))) fun h => h.elim (fun h => .inl h) fun h => .inr (.inr (.inr h)))]
    · rw [if_neg c2, if_neg (fun h => h.elim (fun h => c2 (.inr (.inl h))) fun h => h.elim c1 fun h => h.elim (fun h => c2 (.inl h)) fun h => c2 (.inr (.inr h)))]
end Go.K
namespace Go.K.S
open Go Go.K
set_option maxHeartbeats 8000000
set_option maxRecDepth 20000
theorem sub5_good (a b : VL) {j k : Nat} (ha : Vn j a) (hb : Vn k b) (hk : 0 < k) (hj2 : j < 68719476736) (hk2 : k < 68719476736) :
    Good P F.penumbraref05_Sub [.d (.agg (dV Ψ a)), .d (.agg (dV Ψ b))] [] (.d (.agg (dV Ψ (Ψ .cV (vsub (vv a) (vv b)))))) [] := by
  refine G.penumbraref05_Sub fun C C2 hC hC2 => ?_
  have g1 := sub3_good a.x b.x ha.x hb.x hk hj2 hk2
  have g2 := sub3_good a.y b.y ha.y hb.y hk hj2 hk2
  have g3 := sub3_good a.z b.z ha.z hb.z hk hj2 hk2
  have e : Ψ .cV (vsub (vv a) (vv b)) = ⟨Ψ .cr (rv a.x - rv b.x), Ψ .cr (rv a.y - rv b.y), Ψ .cr (rv a.z - rv b.z)⟩ := rfl
  rw [e]
  exact rn trivial
theorem dot5_good (a b : VL) {j k : Nat} (ha : Vn j a) (hb : Vn k b) (hj : 0 < j) (hk : 0 < k) (hj2 : j < 8589934590) (hk2 : k < 8589934590) :
    Good P F.penumbraref05_Dot [.d (.agg (dV Ψ a)), .d (.agg (dV Ψ b))] [] (.d (.agg (dR Ψ (Ψ .cr (vdot (vv a) (vv b)))))) [] := by
  refine G.penumbraref05_Dot fun C C2 hC hC2 => ?_
  have g1 := mul3_good a.x b.x ha.x hb.x (by omega) (by omega)
  have g2 := mul3_good a.y b.y ha.y hb.y (by omega) (by omega)
  have g3 := mul3_good a.z b.z ha.z hb.z (by omega) (by omega)
  have q1 := Qn_mul (Qn_rv ha.x hj) (Qn_rv hb.x hk) (by omega)
  have q2 := Qn_mul (Qn_rv ha.y hj) (Qn_rv hb.y hk) (by omega)
  have q3 := Qn_mul (Qn_rv ha.z hj) (Qn_rv hb.z hk) (by omega)
  have g4 := add3_good _ _ (Rn_cr.2 q1) (Rn_cr.2 q2) (by omega) (by omega)
  have g5 := add3_good _ _ (Rn_cr.2 (Qn_add q1 q2)) (Rn_cr.2 q3) (by omega) (by omega)
  rw [rv_cr, rv_cr] at g4 g5
  have hV : vdot (vv a) (vv b) = rv a.x * rv b.x + rv a.y * rv b.y + rv a.z * rv b.z := rfl
  rw [hV]
  exact rn trivial
theorem cross5_good (a b : VL) {j k : Nat} (ha : Vn j a) (hb : Vn k b) (hj : 0 < j) (hk : 0 < k) (hj2 : j < 8589934590) (hk2 : k < 8589934590) :
    Good P F.penumbraref05_Cross [.d (.agg (dV Ψ a)), .d (.agg (dV Ψ b))] [] (.d (.agg (dV Ψ (Ψ .cV (vcross (vv a) (vv b)))))) [] := by
  refine G.penumbraref05_Cross fun C C2 hC hC2 => ?_
  have q := fun (x y : RL) (hx : Rn j x) (hy : Rn k y) => Rn_cr.2 (Qn_mul (Qn_rv hx hj) (Qn_rv hy hk) (by omega))
  have g1 := mul3_good a.y b.z ha.y hb.z (by omega) (by omega)
  have g2 := mul3_good a.z b.y ha.z hb.y (by omega) (by omega)
  have g3 := mul3_good a.z b.x ha.z hb.x (by omega) (by omega)
  have g4 := mul3_good a.x b.z ha.x hb.z (by omega) (by omega)
  have g5 := mul3_good a.x b.y ha.x hb.y (by omega) (by omega)
  have g6 := mul3_good a.y b.x ha.y hb.x (by omega) (by omega)
  have s1 := sub3_good _ _ (q _ _ ha.y hb.z) (q _ _ ha.z hb.y) (by omega) (by omega) (by omega)
  have s2 := sub3_good _ _ (q _ _ ha.z hb.x) (q _ _ ha.x hb.z) (by omega) (by omega) (by omega)
  have s3 := sub3_good _ _ (q _ _ ha.x hb.y) (q _ _ ha.y hb.x) (by omega) (by omega) (by omega)
  rw [rv_cr, rv_cr] at s1 s2 s3
  have e : Ψ .cV (vcross (vv a) (vv b)) = ⟨Ψ .cr (rv a.y * rv b.z - rv a.z * rv b.y), Ψ .cr (rv a.z * rv b.x - rv a.x * rv b.z), Ψ .cr (rv a.x * rv b.y - rv a.y * rv b.x)⟩ := rfl
  rw [e]
  clear q
  exact rn trivial
theorem none8_good : Good P F.penumbraref08_None [] [] (.d (.agg (dM Ψ (Ψ .cM m0)))) [] := by
  refine G.penumbraref08_None fun C C2 hC hC2 => ?_
  have g := zero3_good
  have e : Ψ .cM m0 = ⟨Ψ .cr 0, Ψ .cr 0, Ψ .cr 0⟩ := rfl
  rw [e]
  exact rn trivial
theorem normal8_good (t : TL) {k : Nat} (h : Tn k t) (hk : 0 < k) (hk2 : k < 1073741824) :
    Good P F.penumbraref08_Normal [.d (.agg (dT Ψ t))] [] (.d (.agg (dV Ψ (Ψ .cV (vcross (vsub (vv t.b) (vv t.a)) (vsub (vv t.c) (vv t.a))))))) [] := by
  refine G.penumbraref08_Normal fun C C2 hC hC2 => ?_
  have g1 := sub5_good t.b t.a h.b h.a hk (by omega) (by omega)
  have g2 := sub5_good t.c t.a h.c h.a hk (by omega) (by omega)
  have pb := Pn_sub (Pn_vv h.b hk) (Pn_vv h.a hk)
  have pc := Pn_sub (Pn_vv h.c hk) (Pn_vv h.a hk)
  have g3 := cross5_good _ _ (Vn_cV pb) (Vn_cV pc) (by omega) (by omega) (by omega) (by omega)
  rw [vv_cV, vv_cV] at g3
  exact rn trivial
theorem hit8_good (o d : VL) (t : TL) {k : Nat} (ho : Vn k o) (hd : Vn k d) (ht : Tn k t) (hk : 0 < k) (hk2 : k < 67108864) :
    Good P F.penumbraref08_Hit [.d (.agg (dV Ψ o)), .d (.agg (dV Ψ d)), .d (.agg (dT Ψ t))] [] (.tup [.d (.agg (dM Ψ (Ψ .cM (hitM (vv o) (vv d) (tv t))))), .d (.b (hitOk (vv o) (vv d) (tv t)))]) [] := by
  refine G.penumbraref08_Hit fun C C2 hC hC2 => ?_
  have po := Pn_vv ho hk
  have pd := Pn_vv hd hk
  have pa := Pn_vv ht.a hk
  have g0 := none8_good
  have g1 := one3_good
  have gb := sub5_good t.b t.a ht.b ht.a hk (by omega) (by omega)
  have gc := sub5_good t.c t.a ht.c ht.a hk (by omega) (by omega)
  have gao := sub5_good t.a o ht.a ho hk (by omega) (by omega)
  have gn := normal8_good t ht hk (by omega)
  have pb := Pn_sub (Pn_vv ht.b hk) pa
  have pc := Pn_sub (Pn_vv ht.c hk) pa
  have pao := Pn_sub pa po
  have pn := (Pn_cross pb pc (by omega)).mono (show _ ≤ 8 * k + 5 by omega)
  have gdn := dot5_good _ d (Vn_cV pn) hd (by omega) hk (by omega) (by omega)
  rw [vv_cV] at gdn
  have qdn := (Qn_dot pn pd (by omega)).mono (show _ ≤ 27 * k + 17 by omega)
  have gsd := sign3_good _ (Rn_cr.2 qdn) (by omega)
  rw [rv_cr] at gsd
  have gna := dot5_good _ _ (Vn_cV pn) (Vn_cV pao) (by omega) (by omega) (by omega) (by omega)
  rw [vv_cV, vv_cV] at gna
  have qna := (Qn_dot pn pao (by omega)).mono (show _ ≤ 30 * k + 20 by omega)
  have gs := over3_good _ _ (Rn_cr.2 qna) (Rn_cr.2 qdn) (by omega) (by omega)
  rw [rv_cr, rv_cr] at gs
  have qs := (Qn_div qna qdn (by omega)).mono (show _ ≤ 57 * k + 37 by omega)
  have gat := at8_good o d _ (ho.mono (show _ ≤ 57 * k + 37 by omega)) (hd.mono (show _ ≤ 57 * k + 37 by omega)) (Rn_cr.2 qs) (by omega) (by omega)
  rw [rv_cr] at gat
  have pat := (Pn_add po (Pn_mul qs pd (by omega))).mono (show _ ≤ 59 * k + 38 by omega)
  have gp := sub5_good _ t.a (Vn_cV pat) ht.a hk (by omega) (by omega)
  rw [vv_cV] at gp
  have pp := (Pn_sub pat pa).mono (show _ ≤ 60 * k + 39 by omega)
  have gw := dot5_good _ _ (Vn_cV pn) (Vn_cV pn) (by omega) (by omega) (by omega) (by omega)
  rw [vv_cV] at gw
  have qw := (Qn_dot pn pn (by omega)).mono (show _ ≤ 48 * k + 32 by omega)
  have gpc := cross5_good _ _ (Vn_cV pp) (Vn_cV pc) (by omega) (by omega) (by omega) (by omega)
  rw [vv_cV, vv_cV] at gpc
  have ppc := (Pn_cross pp pc (by omega)).mono (show _ ≤ 124 * k + 81 by omega)
  have gpcn := dot5_good _ _ (Vn_cV ppc) (Vn_cV pn) (by omega) (by omega) (by omega) (by omega)
  rw [vv_cV, vv_cV] at gpcn
  have qpcn := (Qn_dot ppc pn (by omega)).mono (show _ ≤ 396 * k + 260 by omega)
  have gu := over3_good _ _ (Rn_cr.2 qpcn) (Rn_cr.2 qw) (by omega) (by omega)
  rw [rv_cr, rv_cr] at gu
  have qu := (Qn_div qpcn qw (by omega)).mono (show _ ≤ 444 * k + 292 by omega)
  have gbp := cross5_good _ _ (Vn_cV pb) (Vn_cV pp) (by omega) (by omega) (by omega) (by omega)
  rw [vv_cV, vv_cV] at gbp
  have pbp := (Pn_cross pb pp (by omega)).mono (show _ ≤ 124 * k + 81 by omega)
  have gbpn := dot5_good _ _ (Vn_cV pbp) (Vn_cV pn) (by omega) (by omega) (by omega) (by omega)
  rw [vv_cV, vv_cV] at gbpn
  have qbpn := (Qn_dot pbp pn (by omega)).mono (show _ ≤ 396 * k + 260 by omega)
  have gv := over3_good _ _ (Rn_cr.2 qbpn) (Rn_cr.2 qw) (by omega) (by omega)
  rw [rv_cr, rv_cr] at gv
  have qv := (Qn_div qbpn qw (by omega)).mono (show _ ≤ 444 * k + 292 by omega)
  have gss := sign3_good _ (Rn_cr.2 qs) (by omega)
  have gsu := sign3_good _ (Rn_cr.2 qu) (by omega)
  have gsv := sign3_good _ (Rn_cr.2 qv) (by omega)
  rw [rv_cr] at gss gsu gsv
  have gadd := add3_good _ _ (Rn_cr.2 qu) (Rn_cr.2 qv) (by omega) (by omega)
  rw [rv_cr, rv_cr] at gadd
  have gcmp := cmp3_good _ (Ψ .cr 1) (Rn_cr.2 (Qn_add qu qv)) (Rn_cr.2 (Qn_one (k := 1) (by omega))) (by omega) (by omega) (by omega) (by omega)
  rw [rv_cr, rv_cr] at gcmp
  clear po pd pa pb pc pao pn qdn qna qs pat pp qw ppc qpcn qu pbp qbpn qv
  have hm : hitM (vv o) (vv d) (tv t) = (hitR (vv o) (vv d) (tv t)).getD m0 := by rw [hit_law]; rfl
  have hok : hitOk (vv o) (vv d) (tv t) = (hitR (vv o) (vv d) (tv t)).isSome := by rw [hit_law]; rfl
  rw [hm, hok]
  clear hm hok
  unfold hitR
  simp only [show (tv t).a = vv t.a from rfl, show (tv t).b = vv t.b from rfl, show (tv t).c = vv t.c from rfl]
  generalize vsub (vv t.b) (vv t.a) = B at *
  generalize vsub (vv t.c) (vv t.a) = Cc at *
  generalize vsub (vv t.a) (vv o) = ao at *
  generalize vcross B Cc = n at *
  generalize vdot n (vv d) = down at *
  generalize vdot n ao = na at *
  generalize vdot n n = nn at *
  generalize na / down = s at *
  generalize vadd (vv o) (vmul s (vv d)) = at' at *
  generalize vsub at' (vv t.a) = p at *
  generalize vcross p Cc = pc at *
  generalize vcross B p = bp at *
  generalize vdot pc n = pcn at *
  generalize vdot bp n = bpn at *
  generalize pcn / nn = u at *
  generalize bpn / nn = v at *
  have zd := @sI_zero down
  generalize Ψ .sI down = sd at *
  by_cases h0 : down = 0
  · rw [if_pos h0]
    have zd' := eq_true'.2 (zd.2 h0)
    rw [Option.getD_none]
    exact rn trivial
  rw [if_neg h0]
  have zd' := eq_false'.2 (mt zd.1 h0)
  have zs := @sI_nonpos s
  generalize Ψ .sI s = ss at *
  by_cases hs : s ≤ 0
  · rw [if_pos (.inl hs)]
    have zs' := le_true.2 (zs.2 hs)
    rw [Option.getD_none]
    exact rn trivial
  have zs' := le_false.2 (Int.not_le.1 (mt zs.1 hs))
  have zu := @sI_neg u
  generalize Ψ .sI u = su at *
  by_cases hu : u < 0
  · rw [if_pos (.inr (.inl hu))]
    have zu' := lt_true.2 (zu.2 hu)
    rw [Option.getD_none]
    exact rn trivial
  have zu' := lt_false.2 (Int.not_lt.1 (mt zu.1 hu))
  have zv := @sI_neg v
  generalize Ψ .sI v = sv at *
  by_cases hv : v < 0
  · rw [if_pos (.inr (.inr (.inl hv)))]
    have zv' := lt_true.2 (zv.2 hv)
    rw [Option.getD_none]
    exact rn trivial
  have zv' := lt_false.2 (Int.not_lt.1 (mt zv.1 hv))
  have zc := @cI_pos (u + v) 1
  generalize Ψ .cI (u + v) 1 = ic at *
  by_cases hc : 1 < u + v
  · rw [if_pos (.inr (.inr (.inr hc)))]
    have zc' := lt_true.2 (zc.2 hc)
    rw [Option.getD_none]
    exact rn trivial
  have zc' := lt_false.2 (Int.not_lt.1 (mt zc.1 hc))
  rw [if_neg (fun c => c.elim hs fun c => c.elim hu fun c => c.elim hv hc), Option.getD_some]
  have hmm : Ψ .cM ⟨s, u, v⟩ = ⟨Ψ .cr s, Ψ .cr u, Ψ .cr v⟩ := rfl
  rw [hmm]
  exact rn trivial
end Go.K.S
end
section
namespace Go.K
theorem rk {P Q : Prop} (q : Q) (h : Hid Q → P := by
  intro q; (generalize hΩ : Ω = ω, hΨ : Ψ = ψ; cbv <;> subst hΩ hΨ <;> try simp only [lits, true_and, Int.reduceAdd, Int.reduceSub, Int.reduceMul, not_u32, slen_nil, tn_ci, tn_zero, slen_lims, slen_dRs, slen_dVs, slen_dBs])
  (repeat (
    first
      | refine ⟨_, hC _ _ _ (by assumption), ?_⟩
      | refine ⟨_, _, hC2 _ _ _ _ _ (by assumption), ?_⟩
      | refine ⟨ci_nonneg _, _, (by assumption), rfl, ?_⟩
      | refine ⟨_, (by assumption), rfl, ?_⟩
      | refine ⟨ci_nonneg _, (by simp only [wz, slen_scat]; omega), _, (by assumption), (by first | exact Nat.le_refl _ | (simp; done)), rfl, ?_⟩
      | refine ⟨(by first | exact fun u h => by rw [List.mem_singleton.1 h]; rfl | exact cells_dRs _ | assumption), (by simp only [wz, slen_scat]; omega), ?_⟩
      | refine BrG.yes (by first | assumption | decide) ?_
      | refine BrG.no (by first | assumption | decide) ?_
    (generalize hΩ : Ω = ω, hΨ : Ψ = ψ; cbv <;> subst hΩ hΨ <;> try simp only [lits, true_and, Int.reduceAdd, Int.reduceSub, Int.reduceMul, not_u32, slen_nil, tn_ci, tn_zero, slen_lims, slen_dRs, slen_dVs, slen_dBs])))
  all_goals with_reducible exact q.out) : P := h ⟨q⟩
end Go.K
end
section
namespace Go.K
open Go
def bv (b : BL) : B3 := ⟨vv b.lo, vv b.hi⟩
theorem bv_cB (p : B3) : bv (Ψ .cB p) = p := by simp [bv, p_cB, vv_cV]
structure Bn (k : Nat) (b : BL) : Prop where
  lo : Vn k b.lo
  hi : Vn k b.hi
structure Bq (k : Nat) (p : B3) : Prop where
  lo : Pn k p.lo
  hi : Pn k p.hi
theorem Bn_cB {k : Nat} {p : B3} (h : Bq k p) : Bn k (Ψ .cB p) := ⟨Vn_cV h.lo, Vn_cV h.hi⟩
theorem Bq_bv {k : Nat} {b : BL} (h : Bn k b) (hk : 0 < k) : Bq k (bv b) := ⟨Pn_vv h.lo hk, Pn_vv h.hi hk⟩
theorem BL.ext_iff' {a b : BL} : a = b ↔ a.lo = b.lo ∧ a.hi = b.hi := by
  cases a; cases b; simp
instance : DecidableEq BL := fun _ _ => decidable_of_iff _ BL.ext_iff'.symm
theorem B3.ext_iff' {a b : B3} : a = b ↔ a.lo = b.lo ∧ a.hi = b.hi := by
  cases a; cases b; simp
instance : DecidableEq B3 := fun _ _ => decidable_of_iff _ B3.ext_iff'.symm
def rmin (p q : Rat) : Rat := if p ≤ q then p else q
def rmax (p q : Rat) : Rat := if q ≤ p then p else q
theorem Qn_min {k : Nat} {p q : Rat} (hp : Qn k p) (hq : Qn k q) : Qn k (rmin p q) := by unfold rmin; split <;> assumption
theorem Qn_max {k : Nat} {p q : Rat} (hp : Qn k p) (hq : Qn k q) : Qn k (rmax p q) := by unfold rmax; split <;> assumption
def vmin (p q : V3) : V3 := ⟨rmin p.x q.x, rmin p.y q.y, rmin p.z q.z⟩
def vmax (p q : V3) : V3 := ⟨rmax p.x q.x, rmax p.y q.y, rmax p.z q.z⟩
def bjoin (a b : B3) : B3 := ⟨vmin a.lo b.lo, vmax a.hi b.hi⟩
def b0 : B3 := ⟨v0, v0⟩
theorem rmin_self (p : Rat) : rmin p p = p := by simp [rmin]
theorem rmax_self (p : Rat) : rmax p p = p := by simp [rmax]
theorem Pn_min {k : Nat} {p q : V3} (hp : Pn k p) (hq : Pn k q) : Pn k (vmin p q) := ⟨Qn_min hp.x hq.x, Qn_min hp.y hq.y, Qn_min hp.z hq.z⟩
theorem Pn_max {k : Nat} {p q : V3} (hp : Pn k p) (hq : Pn k q) : Pn k (vmax p q) := ⟨Qn_max hp.x hq.x, Qn_max hp.y hq.y, Qn_max hp.z hq.z⟩
theorem Bq_join {k : Nat} {p q : B3} (hp : Bq k p) (hq : Bq k q) : Bq k (bjoin p q) := ⟨Pn_min hp.lo hq.lo, Pn_max hp.hi hq.hi⟩
theorem Bq_b0 {k : Nat} (hk : 0 < k) : Bq k b0 := ⟨Pn_v0 hk, Pn_v0 hk⟩
def bjoins : List BL → B3
  | [] => b0
  | b :: r => (r.map bv).foldl bjoin (bv b)
theorem bjoins_snoc (l : List BL) (b : BL) (h : l ≠ []) : bjoins (l ++ [b]) = bjoin (bjoins l) (bv b) := by
  cases l with
  | nil => exact absurd rfl h
  | cons a l => simp [bjoins]
theorem Bq_joins {k : Nat} (hk : 0 < k) : ∀ (l : List BL), (∀ b, b ∈ l → Bn k b) → Bq k (bjoins l)
  | [], _ => Bq_b0 hk
  | b :: r, h => by
    have key : ∀ (r : List BL) (s : B3), Bq k s → (∀ b, b ∈ r → Bn k b) → Bq k ((r.map bv).foldl bjoin s) := fun r => by
      induction r with
      | nil => intro s hs _; exact hs
      | cons c r ih => intro s hs hr; exact ih _ (Bq_join hs (Bq_bv (hr c (by simp)) hk)) (fun b hb => hr b (by simp [hb]))
    exact key r _ (Bq_bv (h b (by simp)) hk) (fun c hc => h c (by simp [hc]))
theorem sget_dBs (l : List BL) (k : Nat) : Ω .sget (Ψ .dBs l) k = (l[k]?).map fun r => (D.agg (dB Ψ r) : D) := by simp [w_sget, p_dBs]
theorem scat_dBs (l m : List BL) : Ω .scat (Ψ .dBs l) (Ψ .dBs m) = Ψ .dBs (l ++ m) := by simp [w_scat, p_dBs]
theorem idx_dBs {l : List BL} {k : Int} {sz : Nat} {R : D → Prop} (kn : Nat) (r : BL) (hk : k = Ω .ci kn) (hv : l[kn]? = some r) (hsz : 18 = sz) (h : R (.agg (dB Ψ r))) :
    Ω .ile 0 k ∧ ∃ x, Ω .sget (Ψ .dBs l) (Ω .tn k) = some x ∧ x.cells.length = sz ∧ R x := by
  subst hk
  refine ⟨ci_nonneg _, .agg (dB Ψ r), ?_, hsz, h⟩
  rw [tn_ci, sget_dBs, hv]; rfl
def pbox (v : VL) : BL := ⟨v, v⟩
structure S3 where
  from' : Rat
  to' : Rat
  op : Bool
structure SL where
  from' : RL
  to' : RL
  op : Bool
def cS (Ψ : (t : Sd) → STy t) (s : S3) : SL := ⟨Ψ .cr s.from', Ψ .cr s.to', s.op⟩
def dS (Ψ : (t : Sd) → STy t) (s : SL) : List D := [.b s.from'.neg, dN Ψ s.from'.num, dN Ψ s.from'.den, .b s.to'.neg, dN Ψ s.to'.num, dN Ψ s.to'.den, .b s.op]
theorem SL.ext_iff' {a b : SL} : a = b ↔ a.from' = b.from' ∧ a.to' = b.to' ∧ a.op = b.op := by
  cases a; cases b; simp
instance : DecidableEq SL := fun _ _ => decidable_of_iff _ SL.ext_iff'.symm
theorem S3.ext_iff' {a b : S3} : a = b ↔ a.from' = b.from' ∧ a.to' = b.to' ∧ a.op = b.op := by
  cases a; cases b; simp
instance : DecidableEq S3 := fun _ _ => decidable_of_iff _ S3.ext_iff'.symm
def btw (x lo hi : Rat) : Prop := lo ≤ x ∧ x ≤ hi
instance (x lo hi : Rat) : Decidable (btw x lo hi) := by unfold btw; infer_instance
def holds (b : B3) (p : V3) : Prop := btw p.x b.lo.x b.hi.x ∧ btw p.y b.lo.y b.hi.y ∧ btw p.z b.lo.z b.hi.z
instance (b : B3) (p : V3) : Decidable (holds b p) := by unfold holds; infer_instance
end Go.K
namespace Go.K
open Go
def nearR (o d lo hi : Rat) : Rat := if d < 0 then (hi - o) / d else (lo - o) / d
def farR (o d lo hi : Rat) : Rat := if d < 0 then (lo - o) / d else (hi - o) / d
def clip1 (o d lo hi : Rat) (s : S3) : Option S3 :=
  if d = 0 then if o < lo ∨ hi < o then none else some s
  else some ⟨rmax s.from' (nearR o d lo hi), rmin (if s.op then farR o d lo hi else s.to') (farR o d lo hi), false⟩
def axV (v : V3) : Nat → Rat
  | 0 => v.x
  | 1 => v.y
  | _ => v.z
def clipN (o d : V3) (b : B3) : Nat → Option S3
  | 0 => some ⟨0, 0, true⟩
  | i + 1 => (clipN o d b i).bind (clip1 (axV o i) (axV d i) (axV b.lo i) (axV b.hi i))
def clipP (o d : V3) (b : B3) : Option S3 := (clipN o d b 3).bind fun s => if s.op = false ∧ s.to' < s.from' then none else some s
def clipS (o d : V3) (b : B3) : S3 := (clipP o d b).getD ⟨0, 0, false⟩
def clipOk (o d : V3) (b : B3) : Bool := (clipP o d b).isSome
structure Sn (k : Nat) (s : S3) : Prop where
  f : Qn k s.from'
  t : Qn k s.to'
theorem clip_none {o d : V3} {b : B3} {i : Nat} {s : S3} (h : clipN o d b i = some s) (hi : i < 3) (hn : clip1 (axV o i) (axV d i) (axV b.lo i) (axV b.hi i) s = none) : clipS o d b = ⟨0, 0, false⟩ ∧ clipOk o d b = false := by
  have h1 : clipN o d b (i + 1) = none := by rw [clipN, h]; exact hn
  have h3 : ∀ j, clipN o d b j = none → clipN o d b (j + 1) = none := fun j hj => by rw [clipN, hj]; rfl
  have h4 : clipN o d b 3 = none := by
    have : i = 0 ∨ i = 1 ∨ i = 2 := by omega
    rcases this with rfl | rfl | rfl
    · exact h3 _ (h3 _ h1)
    · exact h3 _ h1
    · exact h1
  simp [clipS, clipOk, clipP, h4]
theorem clip_last {o d : V3} {b : B3} {s : S3} (h : clipN o d b 3 = some s) :
    (s.op = false → s.to' < s.from' → clipS o d b = ⟨0, 0, false⟩ ∧ clipOk o d b = false) ∧ (¬ (s.op = false ∧ s.to' < s.from') → clipS o d b = s ∧ clipOk o d b = true) := by
  constructor
  · intro h1 h2
    simp [clipS, clipOk, clipP, h, h1, h2]
  · intro h1
    simp only [clipS, clipOk, clipP, h, Option.bind_some, if_neg h1]
    exact ⟨rfl, rfl⟩
end Go.K
end
section
namespace Go.K.S
open Go Go.K
set_option maxHeartbeats 8000000
set_option maxRecDepth 20000
theorem least_good (a b : RL) {k : Nat} (ha : Rn k a) (hb : Rn k b) (hk2 : k < 68719476736) :
    Good P F.boxes_least [.d (.agg (dR Ψ a)), .d (.agg (dR Ψ b))] [] (.d (.agg (dR Ψ (Ψ .cr (rmin (rv a) (rv b)))))) [] := by
  refine G.boxes_least fun C C2 hC hC2 => ?_
  have g := rcmp_good a b ha hb hk2 hk2
  have g1 := read_good a ha (by omega)
  have g2 := read_good b hb (by omega)
  have z := @cI_nonpos (rv a) (rv b)
  obtain ⟨R, hR⟩ : ∃ R, R = Ψ .cr (rmin (rv a) (rv b)) := ⟨_, rfl⟩
  rw [← hR]
  by_cases c : rv a ≤ rv b
  · have e : R = Ψ .cr (rv a) := by rw [hR, rmin, if_pos c]
    have := z.2 c
    rw [← e] at g1
    clear e hR z
    generalize Ψ .cI (rv a) (rv b) = i at *
    refine nx ?_
    refine ⟨_, hC _ _ _ g, ?_⟩
    refine nx ?_
    first | rw [le_true.2 this] | rw [lt_true.2 this] | rw [eq_true'.2 this] | rw [ne_true'.2 this]
    refine nx ?_
    refine ⟨_, hC _ _ _ g1, ?_⟩
    exact nx trivial
  · have e : R = Ψ .cr (rv b) := by rw [hR, rmin, if_neg c]
    have := mt z.1 c
    rw [← e] at g2
    clear e hR z
    generalize Ψ .cI (rv a) (rv b) = i at *
    refine nx ?_
    refine ⟨_, hC _ _ _ g, ?_⟩
    refine nx ?_
    first | rw [le_false.2 (by omega)] | rw [lt_false.2 (by omega)] | rw [eq_false'.2 this] | rw [ne_false'.2 (by omega)]
    refine nx ?_
    refine ⟨_, hC _ _ _ g2, ?_⟩
    exact nx trivial
theorem most_good (a b : RL) {k : Nat} (ha : Rn k a) (hb : Rn k b) (hk2 : k < 68719476736) :
    Good P F.boxes_most [.d (.agg (dR Ψ a)), .d (.agg (dR Ψ b))] [] (.d (.agg (dR Ψ (Ψ .cr (rmax (rv a) (rv b)))))) [] := by
  refine G.boxes_most fun C C2 hC hC2 => ?_
  have g := rcmp_good a b ha hb hk2 hk2
  have g1 := read_good a ha (by omega)
  have g2 := read_good b hb (by omega)
  have z := @cI_nonneg (rv a) (rv b)
  obtain ⟨R, hR⟩ : ∃ R, R = Ψ .cr (rmax (rv a) (rv b)) := ⟨_, rfl⟩
  rw [← hR]
  by_cases c : rv b ≤ rv a
  · have e : R = Ψ .cr (rv a) := by rw [hR, rmax, if_pos c]
    have := z.2 c
    rw [← e] at g1
    clear e hR z
    generalize Ψ .cI (rv a) (rv b) = i at *
    refine nx ?_
    refine ⟨_, hC _ _ _ g, ?_⟩
    refine nx ?_
    first | rw [le_true.2 this] | rw [lt_true.2 this] | rw [eq_true'.2 this] | rw [ne_true'.2 this]
    refine nx ?_
    refine ⟨_, hC _ _ _ g1, ?_⟩
    exact nx trivial
  · have e : R = Ψ .cr (rv b) := by rw [hR, rmax, if_neg c]
    have := mt z.1 c
    rw [← e] at g2
    clear e hR z
    generalize Ψ .cI (rv a) (rv b) = i at *
    refine nx ?_
    refine ⟨_, hC _ _ _ g, ?_⟩
    refine nx ?_
    first | rw [le_false.2 (by omega)] | rw [lt_false.2 (by omega)] | rw [eq_false'.2 this] | rw [ne_false'.2 (by omega)]
    refine nx ?_
    refine ⟨_, hC _ _ _ g2, ?_⟩
    exact nx trivial
theorem axes_good (v : VL) : Good P F.boxes_axes [.d (.agg (dV Ψ v))] [] (.d (.agg (dV Ψ v))) [] := by
  refine G.boxes_axes fun C C2 hC hC2 => ?_
  exact nx trivial
theorem zero_good : Good P F.rat_Of [.d (.i .i64 0), .d (.i .i64 1)] [] (.d (.agg (dR Ψ (Ψ .cr 0)))) [] := by
  have g := rof_good 0 1 (by omega) (by omega) (by omega) (by omega)
  have e : ((0 : Int) : Rat) / ((1 : Int) : Rat) = 0 := by
    have : ((1 : Int) : Rat) = 1 := rfl
    have h2 : ((0 : Int) : Rat) = 0 := rfl
    rw [this, h2]; grind
  rw [e] at g
  exact g
end Go.K.S
end
section
namespace Go.K.S
open Go Go.K
set_option maxHeartbeats 8000000
set_option maxRecDepth 20000
theorem join_good (l : List BL) {k : Nat} (hl : ∀ b, b ∈ l → Bn k b) (hln : l.length < 68719476736) (hk : 0 < k) (hk2 : k < 68719476736) :
    Good P F.boxes_Join [.d (.sl (Ψ .dBs l))] [] (.d (.agg (dB Ψ (Ψ .cB (bjoins l))))) [] := by
  refine G.boxes_Join fun C C2 hC hC2 => ?_
  have hq : ∀ i, Bq k (bjoins (l.take i)) := fun i => Bq_joins hk _ (fun b hb => hl b (List.mem_of_mem_take hb))
  have hst : ∀ i r, l[i]? = some r → 0 < i → bjoins (l.take (i + 1)) = bjoin (bjoins (l.take i)) (bv r) := fun i r hr hi => by
    have hlt := (List.getElem?_eq_some_iff.1 hr).1
    rw [take_succ_of hr, bjoins_snoc _ _ (fun c => by
      have := congrArg List.length c
      rw [List.length_take, List.length_nil] at this
      omega)]
  have hst0 : ∀ r, l[0]? = some r → bjoins (l.take 1) = bv r := fun r hr => by rw [take_succ_of hr]; rfl
  have hlast : bjoins (l.take l.length) = bjoins l := by rw [List.take_length]
  have hz : bjoins (l.take 0) = b0 := rfl
  obtain ⟨R0, hR0⟩ : ∃ R, R = bjoins l := ⟨_, rfl⟩
  rw [← hR0] at hlast ⊢
  obtain ⟨S, hS⟩ : ∃ S : Nat → B3, S = fun i => bjoins (l.take i) := ⟨_, rfl⟩
  have hSe : ∀ i, bjoins (l.take i) = S i := fun i => by rw [hS]
  simp only [hSe] at hq hst hst0 hlast hz
  clear hSe hS
  have e0 : Ψ .cr 0 = (Ψ .cB (S 0)).lo.x := by rw [hz]; rfl
  have g0 := zero_good
  rw [e0] at g0
  refine nx ?_
  refine ⟨_, hC _ _ _ g0, ?_⟩
  refine nx ?_
  refine LoopG.intro (σ := Nat) [2, 4, 17, 18, 19] [1050, 1051]
      (fun i => [.ptr 1050 0, .ptr 1051 0, .d (.sl (Ψ .dBs l)), .d (.i .i64 (Ω .ci l.length)), .d (.i .i64 (Ω .ci i))])
      (fun i => [.var [.d (.b false), .nil, .nil, .d (.b false), .nil, .nil, .d (.b false), .nil, .nil, .d (.b false), .nil, .nil, .d (.b false), .nil, .nil, .d (.b false), .nil, .nil], .var ((dB Ψ (Ψ .cB (S i))).map V.d)])
      (fun i => i ≤ l.length)
      (fun i => l.length - i) 0 [1000, 1209] (Nat.zero_le _) ⟨rfl, rfl, ?_⟩ ?_
  · have e : Ψ .cB (S 0) = ⟨⟨Ψ .cr 0, Ψ .cr 0, Ψ .cr 0⟩, ⟨Ψ .cr 0, Ψ .cr 0, Ψ .cr 0⟩⟩ := by rw [hz]; rfl
    rw [e]
    rfl
  rintro (_ | i) hi
  · refine nx ?_
    refine BrG.split (fun h => ?_) (fun h => ?_)
    · have hlen : 0 < l.length := by have := h; simp only [wz] at this; omega
      obtain ⟨r, hr⟩ : ∃ r, l[0]? = some r := ⟨_, List.getElem?_eq_getElem hlen⟩
      have hb := hl r (List.mem_of_getElem? hr)
      have e := hst0 r hr
      have g1 := least_good r.lo.x r.lo.x hb.lo.x hb.lo.x hk2
      have g2 := least_good r.lo.y r.lo.y hb.lo.y hb.lo.y hk2
      have g3 := least_good r.lo.z r.lo.z hb.lo.z hb.lo.z hk2
      have g4 := most_good r.hi.x r.hi.x hb.hi.x hb.hi.x hk2
      have g5 := most_good r.hi.y r.hi.y hb.hi.y hb.hi.y hk2
      have g6 := most_good r.hi.z r.hi.z hb.hi.z hb.hi.z hk2
      rw [rmin_self] at g1 g2 g3
      rw [rmax_self] at g4 g5 g6
      have e1 : Ψ .cr (rv r.lo.x) = (Ψ .cB (S 1)).lo.x := by rw [e]; rfl
      have e2 : Ψ .cr (rv r.lo.y) = (Ψ .cB (S 1)).lo.y := by rw [e]; rfl
      have e3 : Ψ .cr (rv r.lo.z) = (Ψ .cB (S 1)).lo.z := by rw [e]; rfl
      have e4 : Ψ .cr (rv r.hi.x) = (Ψ .cB (S 1)).hi.x := by rw [e]; rfl
      have e5 : Ψ .cr (rv r.hi.y) = (Ψ .cB (S 1)).hi.y := by rw [e]; rfl
      have e6 : Ψ .cr (rv r.hi.z) = (Ψ .cB (S 1)).hi.z := by rw [e]; rfl
      rw [e1] at g1
      rw [e2] at g2
      rw [e3] at g3
      rw [e4] at g4
      rw [e5] at g5
      rw [e6] at g6
      refine nx ?_
      refine ⟨Int.le_refl _, (idx_dBs 0 r rfl hr rfl ?_).2⟩
      refine nx ?_
      refine BrG.yes rfl ?_
      refine nx ?_
      refine ⟨_, hC _ _ _ g1, ?_⟩
      refine nx ?_
      refine ⟨_, hC _ _ _ g2, ?_⟩
      refine nx ?_
      refine ⟨_, hC _ _ _ g3, ?_⟩
      refine nx ?_
      refine ⟨_, hC _ _ _ g4, ?_⟩
      refine nx ?_
      refine ⟨_, hC _ _ _ g5, ?_⟩
      refine nx ?_
      refine ⟨_, hC _ _ _ g6, ?_⟩
      refine nx ?_
      refine ⟨1, [1050, 1051], hlen, by omega, rfl, ?_, rfl⟩
      refine Eq.trans (b := [.ptr 1050 0, .ptr 1051 0, .d (.sl (Ψ .dBs l)), .d (.i .i64 (Ω .ci l.length)), .d (.i .i64 _)]) rfl ?_
      rw [wrap_succ (by omega)]
    · have hlen : l.length = 0 := by
        have := h; simp only [wz] at this
        omega
      rw [hlen] at hlast
      subst hlast
      exact nx trivial
  · refine nx ?_
    refine BrG.split (fun h => ?_) (fun h => ?_)
    · have hlen : i + 1 < l.length := by have := h; simp only [wz] at this; omega
      obtain ⟨r, hr⟩ : ∃ r, l[i + 1]? = some r := ⟨_, List.getElem?_eq_getElem hlen⟩
      have hb := hl r (List.mem_of_getElem? hr)
      have e := hst _ r hr (by omega)
      have q := Bn_cB (hq (i + 1))
      have g1 := least_good (Ψ .cB (S (i + 1))).lo.x r.lo.x q.lo.x hb.lo.x hk2
      have g2 := least_good (Ψ .cB (S (i + 1))).lo.y r.lo.y q.lo.y hb.lo.y hk2
      have g3 := least_good (Ψ .cB (S (i + 1))).lo.z r.lo.z q.lo.z hb.lo.z hk2
      have g4 := most_good (Ψ .cB (S (i + 1))).hi.x r.hi.x q.hi.x hb.hi.x hk2
      have g5 := most_good (Ψ .cB (S (i + 1))).hi.y r.hi.y q.hi.y hb.hi.y hk2
      have g6 := most_good (Ψ .cB (S (i + 1))).hi.z r.hi.z q.hi.z hb.hi.z hk2
      have e1 : Ψ .cr (rmin (rv (Ψ .cB (S (i + 1))).lo.x) (rv r.lo.x)) = (Ψ .cB (S (i + 1 + 1))).lo.x := by rw [e, show rv (Ψ .cB (S (i + 1))).lo.x = (S (i + 1)).lo.x from rv_cr _]; rfl
      have e2 : Ψ .cr (rmin (rv (Ψ .cB (S (i + 1))).lo.y) (rv r.lo.y)) = (Ψ .cB (S (i + 1 + 1))).lo.y := by rw [e, show rv (Ψ .cB (S (i + 1))).lo.y = (S (i + 1)).lo.y from rv_cr _]; rfl
      have e3 : Ψ .cr (rmin (rv (Ψ .cB (S (i + 1))).lo.z) (rv r.lo.z)) = (Ψ .cB (S (i + 1 + 1))).lo.z := by rw [e, show rv (Ψ .cB (S (i + 1))).lo.z = (S (i + 1)).lo.z from rv_cr _]; rfl
      have e4 : Ψ .cr (rmax (rv (Ψ .cB (S (i + 1))).hi.x) (rv r.hi.x)) = (Ψ .cB (S (i + 1 + 1))).hi.x := by rw [e, show rv (Ψ .cB (S (i + 1))).hi.x = (S (i + 1)).hi.x from rv_cr _]; rfl
      have e5 : Ψ .cr (rmax (rv (Ψ .cB (S (i + 1))).hi.y) (rv r.hi.y)) = (Ψ .cB (S (i + 1 + 1))).hi.y := by rw [e, show rv (Ψ .cB (S (i + 1))).hi.y = (S (i + 1)).hi.y from rv_cr _]; rfl
      have e6 : Ψ .cr (rmax (rv (Ψ .cB (S (i + 1))).hi.z) (rv r.hi.z)) = (Ψ .cB (S (i + 1 + 1))).hi.z := by rw [e, show rv (Ψ .cB (S (i + 1))).hi.z = (S (i + 1)).hi.z from rv_cr _]; rfl
      rw [e1] at g1
      rw [e2] at g2
      rw [e3] at g3
      rw [e4] at g4
      rw [e5] at g5
      rw [e6] at g6
      refine nx ?_
      refine idx_dBs (i + 1) r rfl hr rfl ?_
      refine nx ?_
      refine BrG.split (fun h => ?_) (fun h => ?_)
      · exfalso
        simp [wz] at h
        first | omega | (have := of_decide_eq_true h; omega)
      refine nx ?_
      refine ⟨_, hC _ _ _ g1, ?_⟩
      refine nx ?_
      refine ⟨_, hC _ _ _ g2, ?_⟩
      refine nx ?_
      refine ⟨_, hC _ _ _ g3, ?_⟩
      refine nx ?_
      refine ⟨_, hC _ _ _ g4, ?_⟩
      refine nx ?_
      refine ⟨_, hC _ _ _ g5, ?_⟩
      refine nx ?_
      refine ⟨_, hC _ _ _ g6, ?_⟩
      refine nx ?_
      refine ⟨i + 1 + 1, [1050, 1051], hlen, by omega, rfl, ?_, rfl⟩
      refine Eq.trans (b := [.ptr 1050 0, .ptr 1051 0, .d (.sl (Ψ .dBs l)), .d (.i .i64 (Ω .ci l.length)), .d (.i .i64 _)]) rfl ?_
      rw [wrap_succ (by omega)]
    · have hlen : i + 1 = l.length := by have := h; simp only [wz] at this; omega
      rw [← hlen] at hlast
      subst hlast
      exact nx trivial
theorem cells18 (b : BL) : ∀ u, u ∈ [D.agg (dB Ψ b)] → u.cells.length = 18 := fun u h => by
  rw [List.mem_singleton.1 h]; rfl
theorem around_good (l : List VL) {k : Nat} (hl : ∀ b, b ∈ l → Vn k b) (hln : l.length < 68719476736) (hk : 0 < k) (hk2 : k < 68719476736) :
    Good P F.boxes_Around [.d (.sl (Ψ .dVs l))] [] (.d (.agg (dB Ψ (Ψ .cB (bjoins (l.map pbox)))))) [] := by
  refine G.boxes_Around fun C C2 hC hC2 => ?_
  have gj := join_good (l.map pbox) (k := k) (fun b hb => by
    obtain ⟨v, hv, rfl⟩ := List.mem_map.1 hb
    exact ⟨hl v hv, hl v hv⟩) (by simp only [List.length_map]; exact hln) hk hk2
  obtain ⟨R, hR⟩ : ∃ R, R = Ψ .cB (bjoins (l.map pbox)) := ⟨_, rfl⟩
  rw [← hR] at gj ⊢
  clear hR
  have hst : ∀ i r, l[i]? = some r → (l.take (i + 1)).map pbox = (l.take i).map pbox ++ [pbox r] := fun i r hr => by rw [take_succ_of hr]; simp
  have hlast : (l.take l.length).map pbox = l.map pbox := by rw [List.take_length]
  have hz : (l.take 0).map pbox = [] := rfl
  have hlen : ∀ i, i ≤ l.length → ((l.take i).map pbox).length = i := fun i hi => by simp; omega
  obtain ⟨S, hS⟩ : ∃ S : Nat → List BL, S = fun i => (l.take i).map pbox := ⟨_, rfl⟩
  have hSe : ∀ i, (l.take i).map pbox = S i := fun i => by rw [hS]
  simp only [hSe] at hst hlast hz hlen
  clear hSe hS
  rw [← hlast] at gj
  refine nx ?_
  refine LoopG.intro2 (σ := Nat) [2, 3, 6, 7, 8] (fun i => match i with | 0 => [1050] | _ + 1 => [1050, 1051])
      (fun i => [.ptr 1050 0, match i with | 0 => .nil | _ + 1 => .own 1051 18, .d (.sl (Ψ .dVs l)), .d (.i .i64 (Ω .ci l.length)), .d (.i .i64 (Ω .ci i))])
      (fun i => .var [.d (.b false), .nil, .nil, .d (.b false), .nil, .nil, .d (.b false), .nil, .nil, .d (.b false), .nil, .nil, .d (.b false), .nil, .nil, .d (.b false), .nil, .nil] :: match i with | 0 => [] | i + 1 => [.row true T.api_Box 18 (Ψ .dBs (S (i + 1)))])
      (fun i => i ≤ l.length)
      (fun i => l.length - i) 0 [1000] (Nat.zero_le _) ⟨rfl, rfl, rfl⟩ ?_
  rintro (_ | i) hi
  · refine nx ?_
    refine BrG.split (fun h => ?_) (fun h => ?_)
    · have hlt : 0 < l.length := by have := h; simp only [wz] at this; omega
      obtain ⟨r, hr⟩ : ∃ r, l[0]? = some r := ⟨_, List.getElem?_eq_getElem hlt⟩
      have e := hst 0 r hr
      rw [hz] at e
      refine nx ?_
      refine ⟨Int.le_refl _, (idx_dVs 0 r rfl hr rfl ?_).2⟩
      refine nx ?_
      refine ⟨cells18 (pbox r), (by simp only [wz]; omega), 1, [1050, 1505], hlt, by omega, rfl, ?_, ?_⟩
      · refine Eq.trans (b := [.ptr 1050 0, .own 1051 18, .d (.sl (Ψ .dVs l)), .d (.i .i64 (Ω .ci l.length)), .d (.i .i64 _)]) rfl ?_
        rw [wrap_succ (by omega)]
      · simp only
        rw [e]
        rfl
    · have hl0 : l.length = 0 := by
        have := h; simp only [wz] at this
        omega
      rw [hl0, hz] at gj
      refine nx ?_
      refine ⟨_, hC _ _ _ gj, ?_⟩
      exact nx trivial
  · have hsl := hlen (i + 1) hi
    refine nx ?_
    refine BrG.split (fun h => ?_) (fun h => ?_)
    · have hlt : i + 1 < l.length := by have := h; simp only [wz] at this; omega
      obtain ⟨r, hr⟩ : ∃ r, l[i + 1]? = some r := ⟨_, List.getElem?_eq_getElem hlt⟩
      have e := hst _ r hr
      refine nx ?_
      refine idx_dVs (i + 1) r rfl hr rfl ?_
      refine nx ?_
      refine ⟨cells18 (pbox r), (by simp only [wz, slen_dBs]; omega), i + 1 + 1, [1050, 1505], hlt, by omega, rfl, ?_, ?_⟩
      · refine Eq.trans (b := [.ptr 1050 0, .own 1051 18, .d (.sl (Ψ .dVs l)), .d (.i .i64 (Ω .ci l.length)), .d (.i .i64 _)]) rfl ?_
        rw [wrap_succ (by omega)]
      · simp only
        rw [e, ← scat_dBs]
        rfl
    · have hl0 : i + 1 = l.length := by have := h; simp only [wz] at this; omega
      rw [← hl0] at gj
      refine nx ?_
      refine ⟨_, hC _ _ _ gj, ?_⟩
      exact nx trivial
end Go.K.S
end
section
namespace Go.K.S
open Go Go.K
set_option maxHeartbeats 16000000
set_option maxRecDepth 20000
theorem clip_good (o d : VL) (b : BL) {k : Nat} (ho : Vn k o) (hd : Vn k d) (hb : Bn k b) (hk : 0 < k) (hk2 : k < 8589934590) :
    Good P F.boxes_Clip [.d (.agg (dV Ψ o)), .d (.agg (dV Ψ d)), .d (.agg (dB Ψ b))] [] (.tup [.d (.agg (dS Ψ (cS Ψ (clipS (vv o) (vv d) (bv b))))), .d (.b (clipOk (vv o) (vv d) (bv b)))]) [] := by
  refine G.boxes_Clip fun C C2 hC hC2 => ?_
  have hnone := @clip_none (vv o) (vv d) (bv b)
  have hlast := @clip_last (vv o) (vv d) (bv b)
  have hstep : ∀ i s, clipN (vv o) (vv d) (bv b) i = some s → clipN (vv o) (vv d) (bv b) (i + 1) = clip1 (axV (vv o) i) (axV (vv d) i) (axV (bv b).lo i) (axV (bv b).hi i) s := fun i s h => by rw [clipN, h]; rfl
  have hzero : clipN (vv o) (vv d) (bv b) 0 = some ⟨0, 0, true⟩ := rfl
  obtain ⟨R, hR⟩ : ∃ R, R = clipS (vv o) (vv d) (bv b) := ⟨_, rfl⟩
  obtain ⟨R2, hR2⟩ : ∃ R, R = clipOk (vv o) (vv d) (bv b) := ⟨_, rfl⟩
  rw [← hR, ← hR2] at hnone hlast ⊢
  clear hR hR2
  generalize clipN (vv o) (vv d) (bv b) = N at *
  have ga1 := axes_good o
  have ga2 := axes_good d
  have ga3 := axes_good b.lo
  have ga4 := axes_good b.hi
  have g0 := zero_good
  obtain ⟨Z, hZ⟩ : ∃ Z, Z = Ψ .cr 0 := ⟨_, rfl⟩
  rw [← hZ] at g0
  have hZ2 : dS Ψ (cS Ψ ⟨0, 0, false⟩) = dS Ψ ⟨Z, Z, false⟩ := by rw [hZ]; rfl
  have hZ3 : dS Ψ (cS Ψ ⟨0, 0, true⟩) = dS Ψ ⟨Z, Z, true⟩ := by rw [hZ]; rfl
  refine nx ?_
  refine ⟨_, hC _ _ _ g0, ?_⟩
  refine nx ?_
  refine ⟨_, hC _ _ _ ga1, ?_⟩
  refine nx ?_
  refine ⟨_, hC _ _ _ ga2, ?_⟩
  refine nx ?_
  refine ⟨_, hC _ _ _ ga3, ?_⟩
  refine nx ?_
  refine ⟨_, hC _ _ _ ga4, ?_⟩
  refine nx ?_
  refine LoopG.intro (σ := Nat × S3) [6, 9, 10, 11, 12, 13, 14, 37] [1050, 1051, 1052, 1053, 1054, 1055, 1056]
      (fun x => [.ptr 1050 0, .ptr 1051 0, .ptr 1052 0, .ptr 1053 0, .ptr 1054 0, .ptr 1055 0, .ptr 1056 0, .d (.i .i64 (il x.1))])
      (fun x => [.var [.d (.b false), .nil, .nil, .d (.b false), .nil, .nil, .d (.b false)], .var ((dS Ψ ⟨Z, Z, false⟩).map V.d), .var ((dS Ψ (cS Ψ x.2)).map V.d), .var ((dV Ψ o).map V.d), .var ((dV Ψ d).map V.d), .var ((dV Ψ b.lo).map V.d), .var ((dV Ψ b.hi).map V.d)])
      (fun x => x.1 ≤ 3 ∧ N x.1 = some x.2 ∧ Sn (3 * k + 1) x.2)
      (fun x => 3 - x.1) (0, ⟨0, 0, true⟩) [1003, 1203, 1303, 1410, 1411, 1412, 1413] ⟨by simp only; omega, hzero, ⟨Qn_zero (by omega), Qn_zero (by omega)⟩⟩ ⟨rfl, rfl, ?_⟩ ?_
  · simp only [hZ3]
    rfl
  rintro ⟨_ | _ | _ | _ | i, s⟩ ⟨hi, hN, hs⟩
  · have hst := hstep _ _ hN
    have hno := @hnone _ _ hN (by omega)
    have a1 : axV (vv o) 0 = rv o.x := rfl
    have a2 : axV (vv d) 0 = rv d.x := rfl
    have a3 : axV (bv b).lo 0 = rv b.lo.x := rfl
    have a4 : axV (bv b).hi 0 = rv b.hi.x := rfl
    simp only [Nat.zero_add, a1, a2, a3, a4] at hst hno hs
    have s1 := rsub_good b.lo.x o.x hb.lo.x ho.x hk hk (by omega) (by omega)
    have s2 := rsub_good b.hi.x o.x hb.hi.x ho.x hk hk (by omega) (by omega)
    have q1 := Qn_sub (Qn_rv hb.lo.x hk) (Qn_rv ho.x hk)
    have q2 := Qn_sub (Qn_rv hb.hi.x hk) (Qn_rv ho.x hk)
    have d1 := rdiv_good _ d.x (Rn_cr.2 q1) hd.x (by omega) hk (by omega) (by omega)
    have d2 := rdiv_good _ d.x (Rn_cr.2 q2) hd.x (by omega) hk (by omega) (by omega)
    rw [rv_cr] at d1 d2
    have t1 := (Qn_div q1 (Qn_rv hd.x hk) hk).mono (show _ ≤ 3 * k + 1 by omega)
    have t2 := (Qn_div q2 (Qn_rv hd.x hk) hk).mono (show _ ≤ 3 * k + 1 by omega)
    have sg1 := sign_good d.x hd.x (by omega)
    have c1 := rcmp_good o.x b.lo.x ho.x hb.lo.x (by omega) (by omega)
    have c2 := rcmp_good o.x b.hi.x ho.x hb.hi.x (by omega) (by omega)
    have z1 := @cI_neg (rv o.x) (rv b.lo.x)
    have z2 := @cI_pos (rv o.x) (rv b.hi.x)
    by_cases hd0 : rv d.x = 0
    · rw [decide_eq_false (fun c => c hd0)] at d1 d2
      by_cases c : rv o.x < rv b.lo.x
      · obtain ⟨e1, e2⟩ := hno (by rw [clip1, if_pos hd0, if_pos (.inl c)])
        subst e1
        subst e2
        rw [hZ2]
        have z1' := z1.2 c
        clear hst hno z1 z2
        generalize Ψ .cI (rv o.x) (rv b.lo.x) = i1 at *
        generalize Ψ .cr (rv b.lo.x - rv o.x) = A1 at *
        generalize Ψ .cr (rv b.hi.x - rv o.x) = A2 at *
        generalize Ψ .cr ((rv b.lo.x - rv o.x) / rv d.x) = A3 at *
        generalize Ψ .cr ((rv b.hi.x - rv o.x) / rv d.x) = A4 at *
        refine nx ?_
        refine BrG.yes rfl ?_
        refine nx ?_
        refine ⟨_, hC _ _ _ s1, ?_⟩
        refine nx ?_
        refine ⟨_, hC _ _ _ d1, ?_⟩
        refine nx ?_
        refine ⟨_, hC _ _ _ s2, ?_⟩
        refine nx ?_
        refine ⟨_, hC _ _ _ d2, ?_⟩
        refine nx ?_
        refine ⟨_, hC _ _ _ c1, ?_⟩
        refine nx ?_
        first | rw [le_true.2 z1'] | rw [lt_true.2 z1'] | rw [eq_true'.2 z1'] | rw [ne_true'.2 z1']
        exact nx trivial
      have z1' := mt z1.1 c
      by_cases c' : rv b.hi.x < rv o.x
      · obtain ⟨e1, e2⟩ := hno (by rw [clip1, if_pos hd0, if_pos (.inr c')])
        subst e1
        subst e2
        rw [hZ2]
        have z2' := z2.2 c'
        clear hst hno z1 z2
        generalize Ψ .cI (rv o.x) (rv b.lo.x) = i1 at *
        generalize Ψ .cI (rv o.x) (rv b.hi.x) = i2 at *
        generalize Ψ .cr (rv b.lo.x - rv o.x) = A1 at *
        generalize Ψ .cr (rv b.hi.x - rv o.x) = A2 at *
        generalize Ψ .cr ((rv b.lo.x - rv o.x) / rv d.x) = A3 at *
        generalize Ψ .cr ((rv b.hi.x - rv o.x) / rv d.x) = A4 at *
        refine nx ?_
        refine BrG.yes rfl ?_
        refine nx ?_
        refine ⟨_, hC _ _ _ s1, ?_⟩
        refine nx ?_
        refine ⟨_, hC _ _ _ d1, ?_⟩
        refine nx ?_
        refine ⟨_, hC _ _ _ s2, ?_⟩
        refine nx ?_
        refine ⟨_, hC _ _ _ d2, ?_⟩
        refine nx ?_
        refine ⟨_, hC _ _ _ c1, ?_⟩
        refine nx ?_
        first | rw [le_false.2 (by omega)] | rw [lt_false.2 (by omega)] | rw [eq_false'.2 z1'] | rw [ne_false'.2 (by omega)]
        refine nx ?_
        refine ⟨_, hC _ _ _ c2, ?_⟩
        refine nx ?_
        first | rw [le_true.2 z2'] | rw [lt_true.2 z2'] | rw [eq_true'.2 z2'] | rw [ne_true'.2 z2']
        exact nx trivial
      have z2' := mt z2.1 c'
      rw [clip1, if_pos hd0, if_neg (fun q => q.elim c c')] at hst
      clear hno z1 z2
      generalize Ψ .cI (rv o.x) (rv b.lo.x) = i1 at *
      generalize Ψ .cI (rv o.x) (rv b.hi.x) = i2 at *
      generalize Ψ .cr (rv b.lo.x - rv o.x) = A1 at *
      generalize Ψ .cr (rv b.hi.x - rv o.x) = A2 at *
      generalize Ψ .cr ((rv b.lo.x - rv o.x) / rv d.x) = A3 at *
      generalize Ψ .cr ((rv b.hi.x - rv o.x) / rv d.x) = A4 at *
      refine nx ?_
      refine BrG.yes rfl ?_
      refine nx ?_
      refine ⟨_, hC _ _ _ s1, ?_⟩
      refine nx ?_
      refine ⟨_, hC _ _ _ d1, ?_⟩
      refine nx ?_
      refine ⟨_, hC _ _ _ s2, ?_⟩
      refine nx ?_
      refine ⟨_, hC _ _ _ d2, ?_⟩
      refine nx ?_
      refine ⟨_, hC _ _ _ c1, ?_⟩
      refine nx ?_
      first | rw [le_false.2 (by omega)] | rw [lt_false.2 (by omega)] | rw [eq_false'.2 z1'] | rw [ne_false'.2 (by omega)]
      refine nx ?_
      refine ⟨_, hC _ _ _ c2, ?_⟩
      refine nx ?_
      first | rw [le_false.2 (by omega)] | rw [lt_false.2 (by omega)] | rw [eq_false'.2 z2'] | rw [ne_false'.2 (by omega)]
      refine nx ?_
      exact ⟨(1, s), [1050, 1051, 1052, 1053, 1054, 1055, 1056], ⟨by simp only; omega, hst, hs⟩, by simp only; omega, rfl, rfl, rfl⟩
    rw [decide_eq_true hd0] at d1 d2
    rw [clip1, if_neg hd0] at hst
    have qn : Qn (3 * k + 1) (nearR (rv o.x) (rv d.x) (rv b.lo.x) (rv b.hi.x)) := by unfold nearR; split <;> assumption
    have qf : Qn (3 * k + 1) (farR (rv o.x) (rv d.x) (rv b.lo.x) (rv b.hi.x)) := by unfold farR; split <;> assumption
    have m1 := most_good _ _ (Rn_cr.2 hs.f) (Rn_cr.2 qn) (by omega)
    have l1 := least_good _ _ (Rn_cr.2 qf) (Rn_cr.2 qf) (by omega)
    have l2 := least_good _ _ (Rn_cr.2 hs.t) (Rn_cr.2 qf) (by omega)
    simp only [rv_cr] at m1 l1 l2
    have qa := Qn_max hs.f qn
    have qb := Qn_min qf qf
    have qc := Qn_min hs.t qf
    have z := @sI_neg (rv d.x)
    by_cases c : rv d.x < 0
    · have z' := z.2 c
      have en : nearR (rv o.x) (rv d.x) (rv b.lo.x) (rv b.hi.x) = (rv b.hi.x - rv o.x) / rv d.x := if_pos c
      have ef : farR (rv o.x) (rv d.x) (rv b.lo.x) (rv b.hi.x) = (rv b.lo.x - rv o.x) / rv d.x := if_pos c
      rw [← ef] at d1
      rw [← en] at d2
      clear hno z z1 z2 qn qf t1 t2 q1 q2 en ef
      generalize nearR (rv o.x) (rv d.x) (rv b.lo.x) (rv b.hi.x) = nn at *
      generalize farR (rv o.x) (rv d.x) (rv b.lo.x) (rv b.hi.x) = ff at *
      generalize Ψ .cr (rv b.lo.x - rv o.x) = A1 at *
      generalize Ψ .cr (rv b.hi.x - rv o.x) = A2 at *
      generalize Ψ .sI (rv d.x) = i1 at *
      obtain ⟨f, t, op⟩ := s
      simp only at *
      cases op
      all_goals
        refine nx ?_
        refine BrG.yes rfl ?_
        refine nx ?_
        refine ⟨_, hC _ _ _ s1, ?_⟩
        refine nx ?_
        refine ⟨_, hC _ _ _ d1, ?_⟩
        refine nx ?_
        refine ⟨_, hC _ _ _ s2, ?_⟩
        refine nx ?_
        refine ⟨_, hC _ _ _ d2, ?_⟩
        refine nx ?_
        refine ⟨_, hC _ _ _ sg1, ?_⟩
        refine nx ?_
        first | rw [le_true.2 z'] | rw [lt_true.2 z'] | rw [eq_true'.2 z'] | rw [ne_true'.2 z']
        refine nx ?_
        refine ⟨_, hC _ _ _ m1, ?_⟩
        refine nx ?_
      · refine ⟨_, hC _ _ _ l2, ?_⟩
        refine nx ?_
        exact ⟨(1, ⟨_, _, _⟩), [1050, 1051, 1052, 1053, 1054, 1055, 1056], ⟨by simp only; omega, hst, qa, qc⟩, by simp only; omega, rfl, rfl, rfl⟩
      · refine ⟨_, hC _ _ _ l1, ?_⟩
        refine nx ?_
        exact ⟨(1, ⟨_, _, _⟩), [1050, 1051, 1052, 1053, 1054, 1055, 1056], ⟨by simp only; omega, hst, qa, qb⟩, by simp only; omega, rfl, rfl, rfl⟩
    · have z' := mt z.1 c
      have en : nearR (rv o.x) (rv d.x) (rv b.lo.x) (rv b.hi.x) = (rv b.lo.x - rv o.x) / rv d.x := if_neg c
      have ef : farR (rv o.x) (rv d.x) (rv b.lo.x) (rv b.hi.x) = (rv b.hi.x - rv o.x) / rv d.x := if_neg c
      rw [← en] at d1
      rw [← ef] at d2
      clear hno z z1 z2 qn qf t1 t2 q1 q2 en ef
      generalize nearR (rv o.x) (rv d.x) (rv b.lo.x) (rv b.hi.x) = nn at *
      generalize farR (rv o.x) (rv d.x) (rv b.lo.x) (rv b.hi.x) = ff at *
      generalize Ψ .cr (rv b.lo.x - rv o.x) = A1 at *
      generalize Ψ .cr (rv b.hi.x - rv o.x) = A2 at *
      generalize Ψ .sI (rv d.x) = i1 at *
      obtain ⟨f, t, op⟩ := s
      simp only at *
      cases op
      all_goals
        refine nx ?_
        refine BrG.yes rfl ?_
        refine nx ?_
        refine ⟨_, hC _ _ _ s1, ?_⟩
        refine nx ?_
        refine ⟨_, hC _ _ _ d1, ?_⟩
        refine nx ?_
        refine ⟨_, hC _ _ _ s2, ?_⟩
        refine nx ?_
        refine ⟨_, hC _ _ _ d2, ?_⟩
        refine nx ?_
        refine ⟨_, hC _ _ _ sg1, ?_⟩
        refine nx ?_
        first | rw [le_false.2 (by omega)] | rw [lt_false.2 (by omega)] | rw [eq_false'.2 z'] | rw [ne_false'.2 (by omega)]
        refine nx ?_
        refine ⟨_, hC _ _ _ m1, ?_⟩
        refine nx ?_
      · refine ⟨_, hC _ _ _ l2, ?_⟩
        refine nx ?_
        exact ⟨(1, ⟨_, _, _⟩), [1050, 1051, 1052, 1053, 1054, 1055, 1056], ⟨by simp only; omega, hst, qa, qc⟩, by simp only; omega, rfl, rfl, rfl⟩
      · refine ⟨_, hC _ _ _ l1, ?_⟩
        refine nx ?_
        exact ⟨(1, ⟨_, _, _⟩), [1050, 1051, 1052, 1053, 1054, 1055, 1056], ⟨by simp only; omega, hst, qa, qb⟩, by simp only; omega, rfl, rfl, rfl⟩
  · have hst := hstep _ _ hN
    have hno := @hnone _ _ hN (by omega)
    have a1 : axV (vv o) 1 = rv o.y := rfl
    have a2 : axV (vv d) 1 = rv d.y := rfl
    have a3 : axV (bv b).lo 1 = rv b.lo.y := rfl
    have a4 : axV (bv b).hi 1 = rv b.hi.y := rfl
    simp only [Nat.zero_add, a1, a2, a3, a4] at hst hno hs
    have s1 := rsub_good b.lo.y o.y hb.lo.y ho.y hk hk (by omega) (by omega)
    have s2 := rsub_good b.hi.y o.y hb.hi.y ho.y hk hk (by omega) (by omega)
    have q1 := Qn_sub (Qn_rv hb.lo.y hk) (Qn_rv ho.y hk)
    have q2 := Qn_sub (Qn_rv hb.hi.y hk) (Qn_rv ho.y hk)
    have d1 := rdiv_good _ d.y (Rn_cr.2 q1) hd.y (by omega) hk (by omega) (by omega)
    have d2 := rdiv_good _ d.y (Rn_cr.2 q2) hd.y (by omega) hk (by omega) (by omega)
    rw [rv_cr] at d1 d2
    have t1 := (Qn_div q1 (Qn_rv hd.y hk) hk).mono (show _ ≤ 3 * k + 1 by omega)
    have t2 := (Qn_div q2 (Qn_rv hd.y hk) hk).mono (show _ ≤ 3 * k + 1 by omega)
    have sg1 := sign_good d.y hd.y (by omega)
    have c1 := rcmp_good o.y b.lo.y ho.y hb.lo.y (by omega) (by omega)
    have c2 := rcmp_good o.y b.hi.y ho.y hb.hi.y (by omega) (by omega)
    have z1 := @cI_neg (rv o.y) (rv b.lo.y)
    have z2 := @cI_pos (rv o.y) (rv b.hi.y)
    by_cases hd0 : rv d.y = 0
    · rw [decide_eq_false (fun c => c hd0)] at d1 d2
      by_cases c : rv o.y < rv b.lo.y
      · obtain ⟨e1, e2⟩ := hno (by rw [clip1, if_pos hd0, if_pos (.inl c)])
        subst e1
        subst e2
        rw [hZ2]
        have z1' := z1.2 c
        clear hst hno z1 z2
        generalize Ψ .cI (rv o.y) (rv b.lo.y) = i1 at *
        generalize Ψ .cr (rv b.lo.y - rv o.y) = A1 at *
        generalize Ψ .cr (rv b.hi.y - rv o.y) = A2 at *
        generalize Ψ .cr ((rv b.lo.y - rv o.y) / rv d.y) = A3 at *
        generalize Ψ .cr ((rv b.hi.y - rv o.y) / rv d.y) = A4 at *
        refine nx ?_
        refine BrG.yes rfl ?_
        refine nx ?_
        refine ⟨_, hC _ _ _ s1, ?_⟩
        refine nx ?_
        refine ⟨_, hC _ _ _ d1, ?_⟩
        refine nx ?_
        refine ⟨_, hC _ _ _ s2, ?_⟩
        refine nx ?_
        refine ⟨_, hC _ _ _ d2, ?_⟩
        refine nx ?_
        refine ⟨_, hC _ _ _ c1, ?_⟩
        refine nx ?_
        first | rw [le_true.2 z1'] | rw [lt_true.2 z1'] | rw [eq_true'.2 z1'] | rw [ne_true'.2 z1']
        exact nx trivial
      have z1' := mt z1.1 c
      by_cases c' : rv b.hi.y < rv o.y
      · obtain ⟨e1, e2⟩ := hno (by rw [clip1, if_pos hd0, if_pos (.inr c')])
        subst e1
        subst e2
        rw [hZ2]
        have z2' := z2.2 c'
        clear hst hno z1 z2
        generalize Ψ .cI (rv o.y) (rv b.lo.y) = i1 at *
        generalize Ψ .cI (rv o.y) (rv b.hi.y) = i2 at *
        generalize Ψ .cr (rv b.lo.y - rv o.y) = A1 at *
        generalize Ψ .cr (rv b.hi.y - rv o.y) = A2 at *
        generalize Ψ .cr ((rv b.lo.y - rv o.y) / rv d.y) = A3 at *
        generalize Ψ .cr ((rv b.hi.y - rv o.y) / rv d.y) = A4 at *
        refine nx ?_
        refine BrG.yes rfl ?_
        refine nx ?_
        refine ⟨_, hC _ _ _ s1, ?_⟩
        refine nx ?_
        refine ⟨_, hC _ _ _ d1, ?_⟩
        refine nx ?_
        refine ⟨_, hC _ _ _ s2, ?_⟩
        refine nx ?_
        refine ⟨_, hC _ _ _ d2, ?_⟩
        refine nx ?_
        refine ⟨_, hC _ _ _ c1, ?_⟩
        refine nx ?_
        first | rw [le_false.2 (by omega)] | rw [lt_false.2 (by omega)] | rw [eq_false'.2 z1'] | rw [ne_false'.2 (by omega)]
        refine nx ?_
        refine ⟨_, hC _ _ _ c2, ?_⟩
        refine nx ?_
        first | rw [le_true.2 z2'] | rw [lt_true.2 z2'] | rw [eq_true'.2 z2'] | rw [ne_true'.2 z2']
        exact nx trivial
      have z2' := mt z2.1 c'
      rw [clip1, if_pos hd0, if_neg (fun q => q.elim c c')] at hst
      clear hno z1 z2
      generalize Ψ .cI (rv o.y) (rv b.lo.y) = i1 at *
      generalize Ψ .cI (rv o.y) (rv b.hi.y) = i2 at *
      generalize Ψ .cr (rv b.lo.y - rv o.y) = A1 at *
      generalize Ψ .cr (rv b.hi.y - rv o.y) = A2 at *
      generalize Ψ .cr ((rv b.lo.y - rv o.y) / rv d.y) = A3 at *
      generalize Ψ .cr ((rv b.hi.y - rv o.y) / rv d.y) = A4 at *
      refine nx ?_
      refine BrG.yes rfl ?_
      refine nx ?_
      refine ⟨_, hC _ _ _ s1, ?_⟩
      refine nx ?_
      refine ⟨_, hC _ _ _ d1, ?_⟩
      refine nx ?_
      refine ⟨_, hC _ _ _ s2, ?_⟩
      refine nx ?_
      refine ⟨_, hC _ _ _ d2, ?_⟩
      refine nx ?_
      refine ⟨_, hC _ _ _ c1, ?_⟩
      refine nx ?_
      first | rw [le_false.2 (by omega)] | rw [lt_false.2 (by omega)] | rw [eq_false'.2 z1'] | rw [ne_false'.2 (by omega)]
      refine nx ?_
      refine ⟨_, hC _ _ _ c2, ?_⟩
      refine nx ?_
      first | rw [le_false.2 (by omega)] | rw [lt_false.2 (by omega)] | rw [eq_false'.2 z2'] | rw [ne_false'.2 (by omega)]
      refine nx ?_
      exact ⟨(2, s), [1050, 1051, 1052, 1053, 1054, 1055, 1056], ⟨by simp only; omega, hst, hs⟩, by simp only; omega, rfl, rfl, rfl⟩
    rw [decide_eq_true hd0] at d1 d2
    rw [clip1, if_neg hd0] at hst
    have qn : Qn (3 * k + 1) (nearR (rv o.y) (rv d.y) (rv b.lo.y) (rv b.hi.y)) := by unfold nearR; split <;> assumption
    have qf : Qn (3 * k + 1) (farR (rv o.y) (rv d.y) (rv b.lo.y) (rv b.hi.y)) := by unfold farR; split <;> assumption
    have m1 := most_good _ _ (Rn_cr.2 hs.f) (Rn_cr.2 qn) (by omega)
    have l1 := least_good _ _ (Rn_cr.2 qf) (Rn_cr.2 qf) (by omega)
    have l2 := least_good _ _ (Rn_cr.2 hs.t) (Rn_cr.2 qf) (by omega)
    simp only [rv_cr] at m1 l1 l2
    have qa := Qn_max hs.f qn
    have qb := Qn_min qf qf
    have qc := Qn_min hs.t qf
    have z := @sI_neg (rv d.y)
    by_cases c : rv d.y < 0
    · have z' := z.2 c
      have en : nearR (rv o.y) (rv d.y) (rv b.lo.y) (rv b.hi.y) = (rv b.hi.y - rv o.y) / rv d.y := if_pos c
      have ef : farR (rv o.y) (rv d.y) (rv b.lo.y) (rv b.hi.y) = (rv b.lo.y - rv o.y) / rv d.y := if_pos c
      rw [← ef] at d1
      rw [← en] at d2
      clear hno z z1 z2 qn qf t1 t2 q1 q2 en ef
      generalize nearR (rv o.y) (rv d.y) (rv b.lo.y) (rv b.hi.y) = nn at *
      generalize farR (rv o.y) (rv d.y) (rv b.lo.y) (rv b.hi.y) = ff at *
      generalize Ψ .cr (rv b.lo.y - rv o.y) = A1 at *
      generalize Ψ .cr (rv b.hi.y - rv o.y) = A2 at *
      generalize Ψ .sI (rv d.y) = i1 at *
      obtain ⟨f, t, op⟩ := s
      simp only at *
      cases op
      all_goals
        refine nx ?_
        refine BrG.yes rfl ?_
        refine nx ?_
        refine ⟨_, hC _ _ _ s1, ?_⟩
        refine nx ?_
        refine ⟨_, hC _ _ _ d1, ?_⟩
        refine nx ?_
        refine ⟨_, hC _ _ _ s2, ?_⟩
        refine nx ?_
        refine ⟨_, hC _ _ _ d2, ?_⟩
        refine nx ?_
        refine ⟨_, hC _ _ _ sg1, ?_⟩
        refine nx ?_
        first | rw [le_true.2 z'] | rw [lt_true.2 z'] | rw [eq_true'.2 z'] | rw [ne_true'.2 z']
        refine nx ?_
        refine ⟨_, hC _ _ _ m1, ?_⟩
        refine nx ?_
      · refine ⟨_, hC _ _ _ l2, ?_⟩
        refine nx ?_
        exact ⟨(2, ⟨_, _, _⟩), [1050, 1051, 1052, 1053, 1054, 1055, 1056], ⟨by simp only; omega, hst, qa, qc⟩, by simp only; omega, rfl, rfl, rfl⟩
      · refine ⟨_, hC _ _ _ l1, ?_⟩
        refine nx ?_
        exact ⟨(2, ⟨_, _, _⟩), [1050, 1051, 1052, 1053, 1054, 1055, 1056], ⟨by simp only; omega, hst, qa, qb⟩, by simp only; omega, rfl, rfl, rfl⟩
    · have z' := mt z.1 c
      have en : nearR (rv o.y) (rv d.y) (rv b.lo.y) (rv b.hi.y) = (rv b.lo.y - rv o.y) / rv d.y := if_neg c
      have ef : farR (rv o.y) (rv d.y) (rv b.lo.y) (rv b.hi.y) = (rv b.hi.y - rv o.y) / rv d.y := if_neg c
      rw [← en] at d1
      rw [← ef] at d2
      clear hno z z1 z2 qn qf t1 t2 q1 q2 en ef
      generalize nearR (rv o.y) (rv d.y) (rv b.lo.y) (rv b.hi.y) = nn at *
      generalize farR (rv o.y) (rv d.y) (rv b.lo.y) (rv b.hi.y) = ff at *
      generalize Ψ .cr (rv b.lo.y - rv o.y) = A1 at *
      generalize Ψ .cr (rv b.hi.y - rv o.y) = A2 at *
      generalize Ψ .sI (rv d.y) = i1 at *
      obtain ⟨f, t, op⟩ := s
      simp only at *
      cases op
      all_goals
        refine nx ?_
        refine BrG.yes rfl ?_
        refine nx ?_
        refine ⟨_, hC _ _ _ s1, ?_⟩
        refine nx ?_
        refine ⟨_, hC _ _ _ d1, ?_⟩
        refine nx ?_
        refine ⟨_, hC _ _ _ s2, ?_⟩
        refine nx ?_
        refine ⟨_, hC _ _ _ d2, ?_⟩
        refine nx ?_
        refine ⟨_, hC _ _ _ sg1, ?_⟩
        refine nx ?_
        first | rw [le_false.2 (by omega)] | rw [lt_false.2 (by omega)] | rw [eq_false'.2 z'] | rw [ne_false'.2 (by omega)]
        refine nx ?_
        refine ⟨_, hC _ _ _ m1, ?_⟩
        refine nx ?_
      · refine ⟨_, hC _ _ _ l2, ?_⟩
        refine nx ?_
        exact ⟨(2, ⟨_, _, _⟩), [1050, 1051, 1052, 1053, 1054, 1055, 1056], ⟨by simp only; omega, hst, qa, qc⟩, by simp only; omega, rfl, rfl, rfl⟩
      · refine ⟨_, hC _ _ _ l1, ?_⟩
        refine nx ?_
        exact ⟨(2, ⟨_, _, _⟩), [1050, 1051, 1052, 1053, 1054, 1055, 1056], ⟨by simp only; omega, hst, qa, qb⟩, by simp only; omega, rfl, rfl, rfl⟩
  · have hst := hstep _ _ hN
    have hno := @hnone _ _ hN (by omega)
    have a1 : axV (vv o) 2 = rv o.z := rfl
    have a2 : axV (vv d) 2 = rv d.z := rfl
    have a3 : axV (bv b).lo 2 = rv b.lo.z := rfl
    have a4 : axV (bv b).hi 2 = rv b.hi.z := rfl
    simp only [Nat.zero_add, a1, a2, a3, a4] at hst hno hs
    have s1 := rsub_good b.lo.z o.z hb.lo.z ho.z hk hk (by omega) (by omega)
    have s2 := rsub_good b.hi.z o.z hb.hi.z ho.z hk hk (by omega) (by omega)
    have q1 := Qn_sub (Qn_rv hb.lo.z hk) (Qn_rv ho.z hk)
    have q2 := Qn_sub (Qn_rv hb.hi.z hk) (Qn_rv ho.z hk)
    have d1 := rdiv_good _ d.z (Rn_cr.2 q1) hd.z (by omega) hk (by omega) (by omega)
    have d2 := rdiv_good _ d.z (Rn_cr.2 q2) hd.z (by omega) hk (by omega) (by omega)
    rw [rv_cr] at d1 d2
    have t1 := (Qn_div q1 (Qn_rv hd.z hk) hk).mono (show _ ≤ 3 * k + 1 by omega)
    have t2 := (Qn_div q2 (Qn_rv hd.z hk) hk).mono (show _ ≤ 3 * k + 1 by omega)
    have sg1 := sign_good d.z hd.z (by omega)
    have c1 := rcmp_good o.z b.lo.z ho.z hb.lo.z (by omega) (by omega)
    have c2 := rcmp_good o.z b.hi.z ho.z hb.hi.z (by omega) (by omega)
    have z1 := @cI_neg (rv o.z) (rv b.lo.z)
    have z2 := @cI_pos (rv o.z) (rv b.hi.z)
    by_cases hd0 : rv d.z = 0
    · rw [decide_eq_false (fun c => c hd0)] at d1 d2
      by_cases c : rv o.z < rv b.lo.z
      · obtain ⟨e1, e2⟩ := hno (by rw [clip1, if_pos hd0, if_pos (.inl c)])
        subst e1
        subst e2
        rw [hZ2]
        have z1' := z1.2 c
        clear hst hno z1 z2
        generalize Ψ .cI (rv o.z) (rv b.lo.z) = i1 at *
        generalize Ψ .cr (rv b.lo.z - rv o.z) = A1 at *
        generalize Ψ .cr (rv b.hi.z - rv o.z) = A2 at *
        generalize Ψ .cr ((rv b.lo.z - rv o.z) / rv d.z) = A3 at *
        generalize Ψ .cr ((rv b.hi.z - rv o.z) / rv d.z) = A4 at *
        refine nx ?_
        refine BrG.yes rfl ?_
        refine nx ?_
        refine ⟨_, hC _ _ _ s1, ?_⟩
        refine nx ?_
        refine ⟨_, hC _ _ _ d1, ?_⟩
        refine nx ?_
        refine ⟨_, hC _ _ _ s2, ?_⟩
        refine nx ?_
        refine ⟨_, hC _ _ _ d2, ?_⟩
        refine nx ?_
        refine ⟨_, hC _ _ _ c1, ?_⟩
        refine nx ?_
        first | rw [le_true.2 z1'] | rw [lt_true.2 z1'] | rw [eq_true'.2 z1'] | rw [ne_true'.2 z1']
        exact nx trivial
      have z1' := mt z1.1 c
      by_cases c' : rv b.hi.z < rv o.z
      · obtain ⟨e1, e2⟩ := hno (by rw [clip1, if_pos hd0, if_pos (.inr c')])
        subst e1
        subst e2
        rw [hZ2]
        have z2' := z2.2 c'
        clear hst hno z1 z2
        generalize Ψ .cI (rv o.z) (rv b.lo.z) = i1 at *
        generalize Ψ .cI (rv o.z) (rv b.hi.z) = i2 at *
        generalize Ψ .cr (rv b.lo.z - rv o.z) = A1 at *
        generalize Ψ .cr (rv b.hi.z - rv o.z) = A2 at *
        generalize Ψ .cr ((rv b.lo.z - rv o.z) / rv d.z) = A3 at *
        generalize Ψ .cr ((rv b.hi.z - rv o.z) / rv d.z) = A4 at *
        refine nx ?_
        refine BrG.yes rfl ?_
        refine nx ?_
        refine ⟨_, hC _ _ _ s1, ?_⟩
        refine nx ?_
        refine ⟨_, hC _ _ _ d1, ?_⟩
        refine nx ?_
        refine ⟨_, hC _ _ _ s2, ?_⟩
        refine nx ?_
        refine ⟨_, hC _ _ _ d2, ?_⟩
        refine nx ?_
        refine ⟨_, hC _ _ _ c1, ?_⟩
        refine nx ?_
        first | rw [le_false.2 (by omega)] | rw [lt_false.2 (by omega)] | rw [eq_false'.2 z1'] | rw [ne_false'.2 (by omega)]
        refine nx ?_
        refine ⟨_, hC _ _ _ c2, ?_⟩
        refine nx ?_
        first | rw [le_true.2 z2'] | rw [lt_true.2 z2'] | rw [eq_true'.2 z2'] | rw [ne_true'.2 z2']
        exact nx trivial
      have z2' := mt z2.1 c'
      rw [clip1, if_pos hd0, if_neg (fun q => q.elim c c')] at hst
      clear hno z1 z2
      generalize Ψ .cI (rv o.z) (rv b.lo.z) = i1 at *
      generalize Ψ .cI (rv o.z) (rv b.hi.z) = i2 at *
      generalize Ψ .cr (rv b.lo.z - rv o.z) = A1 at *
      generalize Ψ .cr (rv b.hi.z - rv o.z) = A2 at *
      generalize Ψ .cr ((rv b.lo.z - rv o.z) / rv d.z) = A3 at *
      generalize Ψ .cr ((rv b.hi.z - rv o.z) / rv d.z) = A4 at *
      refine nx ?_
      refine BrG.yes rfl ?_
      refine nx ?_
      refine ⟨_, hC _ _ _ s1, ?_⟩
      refine nx ?_
      refine ⟨_, hC _ _ _ d1, ?_⟩
      refine nx ?_
      refine ⟨_, hC _ _ _ s2, ?_⟩
      refine nx ?_
      refine ⟨_, hC _ _ _ d2, ?_⟩
      refine nx ?_
      refine ⟨_, hC _ _ _ c1, ?_⟩
      refine nx ?_
      first | rw [le_false.2 (by omega)] | rw [lt_false.2 (by omega)] | rw [eq_false'.2 z1'] | rw [ne_false'.2 (by omega)]
      refine nx ?_
      refine ⟨_, hC _ _ _ c2, ?_⟩
      refine nx ?_
      first | rw [le_false.2 (by omega)] | rw [lt_false.2 (by omega)] | rw [eq_false'.2 z2'] | rw [ne_false'.2 (by omega)]
      refine nx ?_
      exact ⟨(3, s), [1050, 1051, 1052, 1053, 1054, 1055, 1056], ⟨by simp only; omega, hst, hs⟩, by simp only; omega, rfl, rfl, rfl⟩
    rw [decide_eq_true hd0] at d1 d2
    rw [clip1, if_neg hd0] at hst
    have qn : Qn (3 * k + 1) (nearR (rv o.z) (rv d.z) (rv b.lo.z) (rv b.hi.z)) := by unfold nearR; split <;> assumption
    have qf : Qn (3 * k + 1) (farR (rv o.z) (rv d.z) (rv b.lo.z) (rv b.hi.z)) := by unfold farR; split <;> assumption
    have m1 := most_good _ _ (Rn_cr.2 hs.f) (Rn_cr.2 qn) (by omega)
    have l1 := least_good _ _ (Rn_cr.2 qf) (Rn_cr.2 qf) (by omega)
    have l2 := least_good _ _ (Rn_cr.2 hs.t) (Rn_cr.2 qf) (by omega)
    simp only [rv_cr] at m1 l1 l2
    have qa := Qn_max hs.f qn
    have qb := Qn_min qf qf
    have qc := Qn_min hs.t qf
    have z := @sI_neg (rv d.z)
    by_cases c : rv d.z < 0
    · have z' := z.2 c
      have en : nearR (rv o.z) (rv d.z) (rv b.lo.z) (rv b.hi.z) = (rv b.hi.z - rv o.z) / rv d.z := if_pos c
      have ef : farR (rv o.z) (rv d.z) (rv b.lo.z) (rv b.hi.z) = (rv b.lo.z - rv o.z) / rv d.z := if_pos c
      rw [← ef] at d1
      rw [← en] at d2
      clear hno z z1 z2 qn qf t1 t2 q1 q2 en ef
      generalize nearR (rv o.z) (rv d.z) (rv b.lo.z) (rv b.hi.z) = nn at *
      generalize farR (rv o.z) (rv d.z) (rv b.lo.z) (rv b.hi.z) = ff at *
      generalize Ψ .cr (rv b.lo.z - rv o.z) = A1 at *
      generalize Ψ .cr (rv b.hi.z - rv o.z) = A2 at *
      generalize Ψ .sI (rv d.z) = i1 at *
      obtain ⟨f, t, op⟩ := s
      simp only at *
      cases op
      all_goals
        refine nx ?_
        refine BrG.yes rfl ?_
        refine nx ?_
        refine ⟨_, hC _ _ _ s1, ?_⟩
        refine nx ?_
        refine ⟨_, hC _ _ _ d1, ?_⟩
        refine nx ?_
        refine ⟨_, hC _ _ _ s2, ?_⟩
        refine nx ?_
        refine ⟨_, hC _ _ _ d2, ?_⟩
        refine nx ?_
        refine ⟨_, hC _ _ _ sg1, ?_⟩
        refine nx ?_
        first | rw [le_true.2 z'] | rw [lt_true.2 z'] | rw [eq_true'.2 z'] | rw [ne_true'.2 z']
        refine nx ?_
        refine ⟨_, hC _ _ _ m1, ?_⟩
        refine nx ?_
      · refine ⟨_, hC _ _ _ l2, ?_⟩
        refine nx ?_
        exact ⟨(3, ⟨_, _, _⟩), [1050, 1051, 1052, 1053, 1054, 1055, 1056], ⟨by simp only; omega, hst, qa, qc⟩, by simp only; omega, rfl, rfl, rfl⟩
      · refine ⟨_, hC _ _ _ l1, ?_⟩
        refine nx ?_
        exact ⟨(3, ⟨_, _, _⟩), [1050, 1051, 1052, 1053, 1054, 1055, 1056], ⟨by simp only; omega, hst, qa, qb⟩, by simp only; omega, rfl, rfl, rfl⟩
    · have z' := mt z.1 c
      have en : nearR (rv o.z) (rv d.z) (rv b.lo.z) (rv b.hi.z) = (rv b.lo.z - rv o.z) / rv d.z := if_neg c
      have ef : farR (rv o.z) (rv d.z) (rv b.lo.z) (rv b.hi.z) = (rv b.hi.z - rv o.z) / rv d.z := if_neg c
      rw [← en] at d1
      rw [← ef] at d2
      clear hno z z1 z2 qn qf t1 t2 q1 q2 en ef
      generalize nearR (rv o.z) (rv d.z) (rv b.lo.z) (rv b.hi.z) = nn at *
      generalize farR (rv o.z) (rv d.z) (rv b.lo.z) (rv b.hi.z) = ff at *
      generalize Ψ .cr (rv b.lo.z - rv o.z) = A1 at *
      generalize Ψ .cr (rv b.hi.z - rv o.z) = A2 at *
      generalize Ψ .sI (rv d.z) = i1 at *
      obtain ⟨f, t, op⟩ := s
      simp only at *
      cases op
      all_goals
        refine nx ?_
        refine BrG.yes rfl ?_
        refine nx ?_
        refine ⟨_, hC _ _ _ s1, ?_⟩
        refine nx ?_
        refine ⟨_, hC _ _ _ d1, ?_⟩
        refine nx ?_
        refine ⟨_, hC _ _ _ s2, ?_⟩
        refine nx ?_
        refine ⟨_, hC _ _ _ d2, ?_⟩
        refine nx ?_
        refine ⟨_, hC _ _ _ sg1, ?_⟩
        refine nx ?_
        first | rw [le_false.2 (by omega)] | rw [lt_false.2 (by omega)] | rw [eq_false'.2 z'] | rw [ne_false'.2 (by omega)]
        refine nx ?_
        refine ⟨_, hC _ _ _ m1, ?_⟩
        refine nx ?_
      · refine ⟨_, hC _ _ _ l2, ?_⟩
        refine nx ?_
        exact ⟨(3, ⟨_, _, _⟩), [1050, 1051, 1052, 1053, 1054, 1055, 1056], ⟨by simp only; omega, hst, qa, qc⟩, by simp only; omega, rfl, rfl, rfl⟩
      · refine ⟨_, hC _ _ _ l1, ?_⟩
        refine nx ?_
        exact ⟨(3, ⟨_, _, _⟩), [1050, 1051, 1052, 1053, 1054, 1055, 1056], ⟨by simp only; omega, hst, qa, qb⟩, by simp only; omega, rfl, rfl, rfl⟩
  · obtain ⟨hl1, hl2⟩ := hlast hN
    have c := rcmp_good _ _ (Rn_cr.2 hs.f) (Rn_cr.2 hs.t) (by omega) (by omega)
    rw [rv_cr, rv_cr] at c
    have z := @cI_pos s.from' s.to'
    obtain ⟨f, t, op⟩ := s
    simp only at *
    cases op
    · by_cases hlt : t < f
      · obtain ⟨e1, e2⟩ := hl1 rfl hlt
        subst e1
        subst e2
        rw [hZ2]
        have z' := z.2 hlt
        clear z hl2
        generalize Ψ .cI f t = i1 at *
        refine nx ?_
        refine BrG.no rfl ?_
        refine nx ?_
        refine ⟨_, hC _ _ _ c, ?_⟩
        refine nx ?_
        first | rw [le_true.2 z'] | rw [lt_true.2 z'] | rw [eq_true'.2 z'] | rw [ne_true'.2 z']
        exact nx trivial
      · obtain ⟨e1, e2⟩ := hl2 (fun q => hlt q.2)
        subst e1
        subst e2
        have z' := mt z.1 hlt
        clear z
        generalize Ψ .cI f t = i1 at *
        refine nx ?_
        refine BrG.no rfl ?_
        refine nx ?_
        refine ⟨_, hC _ _ _ c, ?_⟩
        refine nx ?_
        first | rw [le_false.2 (by omega)] | rw [lt_false.2 (by omega)] | rw [eq_false'.2 z'] | rw [ne_false'.2 (by omega)]
        exact nx trivial
    · obtain ⟨e1, e2⟩ := hl2 (fun q => Bool.noConfusion q.1)
      subst e1
      subst e2
      refine nx ?_
      refine BrG.no rfl ?_
      exact nx trivial
  · exfalso
    simp only at hi
    omega
end Go.K.S
end
section
namespace Go.K
end Go.K
namespace Go.K.S
open Go Go.K
set_option maxHeartbeats 8000000
set_option maxRecDepth 20000
end Go.K.S
end
section
namespace Go.K.S
open Go Go.K
set_option maxHeartbeats 8000000
set_option maxRecDepth 20000
end Go.K.S
end
section
namespace Go.K
open Go
theorem Qn_int {n : Int} (h : n.natAbs < 4294967296) : Qn 1 (n : Rat) := ⟨by simpa using h, by simp⟩
end Go.K
namespace Go.K.S
open Go Go.K
set_option maxHeartbeats 8000000
set_option maxRecDepth 20000
def cube3 : B3 := ⟨⟨((0 : Int) : Rat), ((0 : Int) : Rat), ((0 : Int) : Rat)⟩, ⟨((1 : Int) : Rat), ((1 : Int) : Rat), ((1 : Int) : Rat)⟩⟩
def half : Rat := ((1 : Int) : Rat) / ((2 : Int) : Rat)
def o1 : V3 := ⟨((-1 : Int) : Rat) / ((1 : Int) : Rat), half, half⟩
def o2 : V3 := ⟨half, half, half⟩
def v200 : V3 := ⟨((2 : Int) : Rat), ((0 : Int) : Rat), ((0 : Int) : Rat)⟩
def v100 : V3 := ⟨((1 : Int) : Rat), ((0 : Int) : Rat), ((0 : Int) : Rat)⟩
def v000 : V3 := ⟨((0 : Int) : Rat), ((0 : Int) : Rat), ((0 : Int) : Rat)⟩
theorem c1 : clipS o1 v200 cube3 = ⟨half, 1, false⟩ := by decide +kernel
theorem c2 : clipOk o1 v200 cube3 = true := by decide +kernel
theorem c3 : (clipS o2 v000 cube3).op = true := by decide +kernel
theorem c4 : clipOk o2 v000 cube3 = true := by decide +kernel
theorem c5 : clipOk v200 v100 cube3 = false := by decide +kernel
end Go.K.S
end
section
namespace Go.K
open Go
def edgesQ (o d lo hi : Rat) : List Rat := if d = 0 then [] else (if 0 ≤ (lo - o) / d then [(lo - o) / d] else []) ++ (if 0 ≤ (hi - o) / d then [(hi - o) / d] else [])
theorem Bn.mono {j k : Nat} {b : BL} (h : Bn j b) (hjk : j ≤ k) : Bn k b := ⟨h.lo.mono hjk, h.hi.mono hjk⟩
end Go.K
namespace Go.K.S
open Go Go.K
set_option maxHeartbeats 8000000
set_option maxRecDepth 20000
def placesQ (o d : V3) (b : B3) : List Rat := 0 :: (edgesQ o.x d.x b.lo.x b.hi.x ++ edgesQ o.y d.y b.lo.y b.hi.y ++ edgesQ o.z d.z b.lo.z b.hi.z)
def vat (o d : V3) (s : Rat) : V3 := vadd o (vmul s d)
def stepR (o d : V3) (b : B3) (acc : Option (Rat × Rat)) (x : Rat) : Option (Rat × Rat) :=
  if holds b (vat o d x) then some (match acc with | none => (x, x) | some (f, t) => (rmin f x, rmax t x)) else acc
def clipR (o d : V3) (b : B3) (l : List Rat) : Option (Rat × Rat) := l.foldl (stepR o d b) none
def spanR (o d : V3) (b : B3) : S3 := match clipR o d b (placesQ o d b) with
  | none => ⟨0, 0, false⟩
  | some (f, t) => ⟨f, t, decide (d = v0)⟩
theorem Qn_edges {o d lo hi : Rat} {k : Nat} (ho : Qn k o) (hd : Qn k d) (hlo : Qn k lo) (hhi : Qn k hi) (hk : 0 < k) : ∀ q, q ∈ edgesQ o d lo hi → Qn (3 * k + 1) q := fun q h => by
  have t1 := (Qn_div (Qn_sub hlo ho) hd hk).mono (show _ ≤ 3 * k + 1 by omega)
  have t2 := (Qn_div (Qn_sub hhi ho) hd hk).mono (show _ ≤ 3 * k + 1 by omega)
  unfold edgesQ at h
  split at h
  · cases h
  · rcases List.mem_append.1 h with h | h
    · split at h
      · rw [List.mem_singleton.1 h]; exact t1
      · cases h
    · split at h
      · rw [List.mem_singleton.1 h]; exact t2
      · cases h
end Go.K.S
end
section
namespace Go.K
open Go Go.K.S
theorem rmax_le {a b t : Rat} : rmax a b ≤ t ↔ a ≤ t ∧ b ≤ t := by unfold rmax; split <;> grind
theorem le_rmin {a b t : Rat} : t ≤ rmin a b ↔ t ≤ a ∧ t ≤ b := by unfold rmin; split <;> grind
theorem le_rmax_left (a b : Rat) : a ≤ rmax a b := by unfold rmax; split <;> grind
theorem rmax_or (a b : Rat) : rmax a b = a ∨ rmax a b = b := by unfold rmax; split <;> simp
theorem rmin_or (a b : Rat) : rmin a b = a ∨ rmin a b = b := by unfold rmin; split <;> simp
theorem div_mul_self' {a b : Rat} (h : b ≠ 0) : a / b * b = a := by grind
theorem mul_le_iff {a b c : Rat} (hc : 0 < c) : a * c ≤ b * c ↔ a ≤ b :=
  ⟨fun h => Rat.le_of_mul_le_mul_right h hc, fun h => Rat.mul_le_mul_of_nonneg_right h (by grind)⟩
theorem axis {o d lo hi : Rat} (hd : d ≠ 0) (t : Rat) : btw (o + t * d) lo hi ↔ nearR o d lo hi ≤ t ∧ t ≤ farR o d lo hi := by
  have e1 : (lo - o) / d * d = lo - o := div_mul_self' hd
  have e2 : (hi - o) / d * d = hi - o := div_mul_self' hd
  unfold btw nearR farR
  generalize (lo - o) / d = x at *
  generalize (hi - o) / d = y at *
  rcases (show d < 0 ∨ 0 < d by grind) with h | h
  · rw [if_pos h, if_pos h]
    have hn : 0 < -d := by grind
    have a1 := mul_le_iff (a := y) (b := t) hn
    have a2 := mul_le_iff (a := t) (b := x) hn
    rw [← a1, ← a2]
    constructor
    · intro h; constructor <;> grind
    · intro h; constructor <;> grind
  · rw [if_neg (by grind), if_neg (by grind)]
    have a1 := mul_le_iff (a := x) (b := t) h
    have a2 := mul_le_iff (a := t) (b := y) h
    rw [← a1, ← a2]
    constructor
    · intro h; constructor <;> grind
    · intro h; constructor <;> grind
def edge (o d : V3) (b : B3) (j : Nat) (x : Rat) : Prop := axV d j ≠ 0 ∧ (x = (axV b.lo j - axV o j) / axV d j ∨ x = (axV b.hi j - axV o j) / axV d j)
theorem edge_near {o d : V3} {b : B3} {j : Nat} (h : axV d j ≠ 0) : edge o d b j (nearR (axV o j) (axV d j) (axV b.lo j) (axV b.hi j)) := by
  refine ⟨h, ?_⟩; unfold nearR; split <;> simp
theorem edge_far {o d : V3} {b : B3} {j : Nat} (h : axV d j ≠ 0) : edge o d b j (farR (axV o j) (axV d j) (axV b.lo j) (axV b.hi j)) := by
  refine ⟨h, ?_⟩; unfold farR; split <;> simp
theorem mem_edgesQ {o d lo hi x : Rat} : x ∈ edgesQ o d lo hi ↔ d ≠ 0 ∧ 0 ≤ x ∧ (x = (lo - o) / d ∨ x = (hi - o) / d) := by
  unfold edgesQ
  split
  · rename_i h; simp [h]
  · rename_i h
    rw [List.mem_append]
    generalize (lo - o) / d = a
    generalize (hi - o) / d = b
    by_cases ha : 0 ≤ a <;> by_cases hb : 0 ≤ b <;> simp only [ha, hb, if_true, if_false, List.mem_singleton, List.not_mem_nil, or_false, false_or] <;> constructor <;> intro q
    · exact ⟨h, by rcases q with rfl | rfl <;> assumption, q⟩
    · exact q.2.2
    · exact ⟨h, by subst q; assumption, .inl q⟩
    · rcases q.2.2 with r | r
      · exact r
      · subst r; exact absurd q.2.1 hb
    · exact ⟨h, by subst q; assumption, .inr q⟩
    · rcases q.2.2 with r | r
      · subst r; exact absurd q.2.1 ha
      · exact r
    · exact q.elim
    · rcases q.2.2 with r | r
      · subst r; exact absurd q.2.1 ha
      · subst r; exact absurd q.2.1 hb
theorem mem_placesQ {o d : V3} {b : B3} {x : Rat} : x ∈ placesQ o d b ↔ x = 0 ∨ (0 ≤ x ∧ ∃ j, j < 3 ∧ edge o d b j x) := by
  unfold placesQ
  rw [List.mem_cons, List.mem_append, List.mem_append, mem_edgesQ, mem_edgesQ, mem_edgesQ]
  constructor
  · rintro (h | (h | h) | h)
    · exact .inl h
    · exact .inr ⟨h.2.1, 0, by omega, h.1, h.2.2⟩
    · exact .inr ⟨h.2.1, 1, by omega, h.1, h.2.2⟩
    · exact .inr ⟨h.2.1, 2, by omega, h.1, h.2.2⟩
  · rintro (h | ⟨h0, j, hj, h1, h2⟩)
    · exact .inl h
    · have : j = 0 ∨ j = 1 ∨ j = 2 := by omega
      rcases this with rfl | rfl | rfl
      · exact .inr (.inl (.inl ⟨h1, h0, h2⟩))
      · exact .inr (.inl (.inr ⟨h1, h0, h2⟩))
      · exact .inr (.inr ⟨h1, h0, h2⟩)
theorem places_nonneg {o d : V3} {b : B3} {x : Rat} (h : x ∈ placesQ o d b) : 0 ≤ x := by
  rcases mem_placesQ.1 h with rfl | h
  · exact Rat.le_refl
  · exact h.1
def inN (o d : V3) (b : B3) (i : Nat) (t : Rat) : Prop := ∀ j, j < i → btw (axV o j + t * axV d j) (axV b.lo j) (axV b.hi j)
theorem inN_succ {o d : V3} {b : B3} {i : Nat} {t : Rat} : inN o d b (i + 1) t ↔ inN o d b i t ∧ btw (axV o i + t * axV d i) (axV b.lo i) (axV b.hi i) :=
  ⟨fun h => ⟨fun j hj => h j (by omega), h i (by omega)⟩, fun h j hj => by
    rcases Nat.lt_or_ge j i with c | c
    · exact h.1 j c
    · obtain rfl : j = i := by omega
      exact h.2⟩
theorem holds_inN {o d : V3} {b : B3} {t : Rat} : holds b (vat o d t) ↔ inN o d b 3 t :=
  ⟨fun h j hj => by
    have : j = 0 ∨ j = 1 ∨ j = 2 := by omega
    rcases this with rfl | rfl | rfl
    · exact h.1
    · exact h.2.1
    · exact h.2.2, fun h => ⟨h 0 (by omega), h 1 (by omega), h 2 (by omega)⟩⟩
structure ClipI (o d : V3) (b : B3) (i : Nat) (s : S3) : Prop where
  mem : ∀ t, 0 ≤ t → (inN o d b i t ↔ s.from' ≤ t ∧ (s.op = true ∨ t ≤ s.to'))
  f0 : 0 ≤ s.from'
  fe : s.from' = 0 ∨ ∃ j, j < i ∧ edge o d b j s.from'
  te : s.op = false → ∃ j, j < i ∧ edge o d b j s.to'
  op : s.op = true ↔ ∀ j, j < i → axV d j = 0
  oz : s.op = true → s.from' = 0 ∧ s.to' = 0
theorem clipI {o d : V3} {b : B3} : ∀ i, match clipN o d b i with
    | none => ∀ t, ¬ inN o d b i t
    | some s => ClipI o d b i s
  | 0 => ⟨fun t ht => ⟨fun _ => ⟨ht, .inl rfl⟩, fun _ j hj => absurd hj (Nat.not_lt_zero _)⟩, Rat.le_refl, .inl rfl, fun h => Bool.noConfusion h, ⟨fun _ j hj => absurd hj (Nat.not_lt_zero _), fun _ => rfl⟩, fun _ => ⟨rfl, rfl⟩⟩
  | i + 1 => by
    have ih := clipI (o := o) (d := d) (b := b) i
    unfold clipN
    cases hN : clipN o d b i with
    | none =>
      rw [hN] at ih
      exact fun t h => ih t (inN_succ.1 h).1
    | some s =>
      rw [hN] at ih
      simp only at ih
      simp only [Option.bind_some, clip1]
      by_cases hd : axV d i = 0
      · rw [if_pos hd]
        have e : ∀ t : Rat, axV o i + t * axV d i = axV o i := fun t => by rw [hd, Rat.mul_zero, Rat.add_zero]
        by_cases c : axV o i < axV b.lo i ∨ axV b.hi i < axV o i
        · rw [if_pos c]
          intro t h
          have := (inN_succ.1 h).2
          rw [e] at this
          unfold btw at this
          grind
        · rw [if_neg c]
          have hb : ∀ t : Rat, btw (axV o i + t * axV d i) (axV b.lo i) (axV b.hi i) := fun t => by rw [e]; unfold btw; grind
          refine ⟨fun t ht => ?_, ih.f0, ?_, ?_, ?_, ih.oz⟩
          · rw [inN_succ, ← ih.mem t ht]
            exact ⟨fun h => h.1, fun h => ⟨h, hb t⟩⟩
          · rcases ih.fe with h | ⟨j, hj, h⟩
            · exact .inl h
            · exact .inr ⟨j, by omega, h⟩
          · intro h
            obtain ⟨j, hj, h⟩ := ih.te h
            exact ⟨j, by omega, h⟩
          · rw [ih.op]
            constructor
            · intro h j hj
              rcases Nat.lt_or_ge j i with c | c
              · exact h j c
              · obtain rfl : j = i := by omega
                exact hd
            · exact fun h j hj => h j (by omega)
      · rw [if_neg hd]
        have ax := fun t => axis (o := axV o i) (lo := axV b.lo i) (hi := axV b.hi i) hd t
        have en := edge_near (o := o) (b := b) hd
        have ef := edge_far (o := o) (b := b) hd
        generalize nearR (axV o i) (axV d i) (axV b.lo i) (axV b.hi i) = nn at *
        generalize farR (axV o i) (axV d i) (axV b.lo i) (axV b.hi i) = ff at *
        refine ⟨fun t ht => ?_, ?_, ?_, fun _ => ?_, ?_, fun h => Bool.noConfusion h⟩
        · rw [inN_succ, ih.mem t ht, ax t, rmax_le, le_rmin]
          cases s.op <;> simp <;> grind
        · have := le_rmax_left s.from' nn
          have := ih.f0
          simp only; grind
        · rcases rmax_or s.from' nn with h | h
          · simp only [h]
            rcases ih.fe with h | ⟨j, hj, h⟩
            · exact .inl h
            · exact .inr ⟨j, by omega, h⟩
          · simp only [h]
            exact .inr ⟨i, by omega, en⟩
        · cases ho : s.op with
          | true => simp only [if_true]; rcases rmin_or ff ff with h | h <;> simp only [h] <;> exact ⟨i, by omega, ef⟩
          | false =>
            simp only [Bool.false_eq_true, if_false]
            rcases rmin_or s.to' ff with h | h <;> simp only [h]
            · obtain ⟨j, hj, h⟩ := ih.te ho
              exact ⟨j, by omega, h⟩
            · exact ⟨i, by omega, ef⟩
        · simp only [Bool.false_eq_true, false_iff]
          exact fun h => hd (h i (by omega))
theorem clipR_snoc (o d : V3) (b : B3) (l : List Rat) (x : Rat) : clipR o d b (l ++ [x]) = stepR o d b (clipR o d b l) x := by simp [clipR]
theorem clipR_says {o d : V3} {b : B3} (l : List Rat) : match clipR o d b l with
    | none => ∀ x, x ∈ l → ¬ holds b (vat o d x)
    | some (f, t) => (f ∈ l ∧ holds b (vat o d f)) ∧ (t ∈ l ∧ holds b (vat o d t)) ∧ ∀ x, x ∈ l → holds b (vat o d x) → f ≤ x ∧ x ≤ t := by
  obtain ⟨n, hn⟩ : ∃ n, n = l.length := ⟨_, rfl⟩
  induction n generalizing l with
  | zero => rw [List.eq_nil_of_length_eq_zero hn.symm]; exact fun x hx => by cases hx
  | succ n ih =>
    rcases List.eq_nil_or_concat l with rfl | ⟨m, y, rfl⟩
    · cases hn
    · have im := ih m (by simp at hn; omega)
      rw [List.concat_eq_append, clipR_snoc]
      unfold stepR
      by_cases h : holds b (vat o d y)
      · rw [if_pos h]
        cases hm : clipR o d b m with
        | none =>
          rw [hm] at im
          simp only at im ⊢
          refine ⟨⟨by simp, h⟩, ⟨by simp, h⟩, fun x hx hh => ?_⟩
          rcases List.mem_append.1 hx with q | q
          · exact absurd hh (im x q)
          · rw [List.mem_singleton.1 q]; exact ⟨Rat.le_refl, Rat.le_refl⟩
        | some p =>
          obtain ⟨f, t⟩ := p
          rw [hm] at im
          simp only at im ⊢
          obtain ⟨h1, h2, h3⟩ := im
          refine ⟨?_, ?_, fun x hx hh => ?_⟩
          · rcases rmin_or f y with q | q <;> rw [q]
            · exact ⟨List.mem_append_left _ h1.1, h1.2⟩
            · exact ⟨by simp, h⟩
          · rcases rmax_or t y with q | q <;> rw [q]
            · exact ⟨List.mem_append_left _ h2.1, h2.2⟩
            · exact ⟨by simp, h⟩
          · have a1 : rmin f y ≤ f ∧ rmin f y ≤ y := by unfold rmin; split <;> grind
            have a2 : t ≤ rmax t y ∧ y ≤ rmax t y := by unfold rmax; split <;> grind
            rcases List.mem_append.1 hx with q | q
            · have := h3 x q hh
              constructor <;> grind
            · rw [List.mem_singleton.1 q]
              exact ⟨a1.2, a2.2⟩
      · rw [if_neg h]
        cases hm : clipR o d b m with
        | none =>
          rw [hm] at im
          simp only at im ⊢
          intro x hx
          rcases List.mem_append.1 hx with q | q
          · exact im x q
          · rw [List.mem_singleton.1 q]; exact h
        | some p =>
          obtain ⟨f, t⟩ := p
          rw [hm] at im
          simp only at im ⊢
          obtain ⟨h1, h2, h3⟩ := im
          refine ⟨⟨List.mem_append_left _ h1.1, h1.2⟩, ⟨List.mem_append_left _ h2.1, h2.2⟩, fun x hx hh => ?_⟩
          rcases List.mem_append.1 hx with q | q
          · exact h3 x q hh
          · rw [List.mem_singleton.1 q] at hh; exact absurd hh h
theorem clip_law (o d : V3) (b : B3) : spanR o d b = clipS o d b ∧ (clipR o d b (placesQ o d b)).isSome = clipOk o d b := by
  have hi := clipI (o := o) (d := d) (b := b) 3
  have hr := clipR_says (o := o) (d := d) (b := b) (placesQ o d b)
  unfold spanR clipS clipOk clipP
  cases hN : clipN o d b 3 with
  | none =>
    rw [hN] at hi
    simp only at hi
    cases hR : clipR o d b (placesQ o d b) with
    | none => exact ⟨rfl, rfl⟩
    | some p =>
      obtain ⟨f, t⟩ := p
      rw [hR] at hr
      exact absurd (holds_inN.1 hr.1.2) (hi f)
  | some s =>
    rw [hN] at hi
    simp only at hi
    simp only [Option.bind_some]
    have p0 : (0 : Rat) ∈ placesQ o d b := mem_placesQ.2 (.inl rfl)
    cases ho : s.op with
    | true =>
      have hz := hi.oz ho
      have hd : d = v0 := by
        have h := hi.op.1 ho
        exact V3.ext_iff'.2 ⟨h 0 (by omega), h 1 (by omega), h 2 (by omega)⟩
      have h0 : holds b (vat o d 0) := holds_inN.2 ((hi.mem 0 Rat.le_refl).2 ⟨by rw [hz.1]; exact Rat.le_refl, .inl ho⟩)
      have all0 : ∀ x, x ∈ placesQ o d b → x = 0 := fun x hx => by
        rcases mem_placesQ.1 hx with h | ⟨_, j, hj, h, _⟩
        · exact h
        · exact absurd (hi.op.1 ho j hj) h
      simp only [Bool.true_eq_false, false_and, if_false]
      cases hR : clipR o d b (placesQ o d b) with
      | none => rw [hR] at hr; exact absurd h0 (hr 0 p0)
      | some p =>
        obtain ⟨f, t⟩ := p
        rw [hR] at hr
        simp only at hr ⊢
        refine ⟨?_, rfl⟩
        rw [all0 f hr.1.1, all0 t hr.2.1.1, decide_eq_true hd]
        refine S3.ext_iff'.2 ⟨hz.1.symm, hz.2.symm, ho.symm⟩
    | false =>
      have hm : ∀ t, 0 ≤ t → (holds b (vat o d t) ↔ s.from' ≤ t ∧ t ≤ s.to') := fun t ht => by
        rw [holds_inN, hi.mem t ht, ho]; simp
      have hd : ¬ d = v0 := fun h => by
        have := hi.op.2 (fun j hj => by
          have : j = 0 ∨ j = 1 ∨ j = 2 := by omega
          rcases this with rfl | rfl | rfl <;> rw [h] <;> rfl)
        rw [ho] at this; cases this
      by_cases hlt : s.to' < s.from'
      · rw [if_pos ⟨rfl, hlt⟩]
        cases hR : clipR o d b (placesQ o d b) with
        | none => exact ⟨rfl, rfl⟩
        | some p =>
          obtain ⟨f, t⟩ := p
          rw [hR] at hr
          have := (hm f (places_nonneg hr.1.1)).1 hr.1.2
          grind
      · rw [if_neg (fun q => hlt q.2)]
        have hle : s.from' ≤ s.to' := by grind
        have f0 := hi.f0
        have t0 : 0 ≤ s.to' := by grind
        have pf : s.from' ∈ placesQ o d b := mem_placesQ.2 (by
          rcases hi.fe with h | ⟨j, hj, h⟩
          · exact .inl h
          · exact .inr ⟨f0, j, hj, h⟩)
        have pt : s.to' ∈ placesQ o d b := mem_placesQ.2 (by
          obtain ⟨j, hj, h⟩ := hi.te ho
          exact .inr ⟨t0, j, hj, h⟩)
        have hf : holds b (vat o d s.from') := (hm _ f0).2 ⟨Rat.le_refl, hle⟩
        have ht : holds b (vat o d s.to') := (hm _ t0).2 ⟨hle, Rat.le_refl⟩
        cases hR : clipR o d b (placesQ o d b) with
        | none => rw [hR] at hr; exact absurd hf (hr _ pf)
        | some p =>
          obtain ⟨f, t⟩ := p
          rw [hR] at hr
          simp only at hr ⊢
          refine ⟨?_, rfl⟩
          have a1 := hr.2.2 _ pf hf
          have a2 := hr.2.2 _ pt ht
          have a3 := (hm f (places_nonneg hr.1.1)).1 hr.1.2
          have a4 := (hm t (places_nonneg hr.2.1.1)).1 hr.2.1.2
          refine S3.ext_iff'.2 ⟨?_, ?_, ?_⟩
          · simp only [Option.getD_some]; grind
          · simp only [Option.getD_some]; grind
          · simp only [Option.getD_some, ho, decide_eq_false hd]
end Go.K
end
section
namespace Go.K.S
open Go Go.K
set_option maxHeartbeats 8000000
set_option maxRecDepth 20000
theorem Sn_spanR {o d : VL} {b : BL} {k : Nat} (ho : Vn k o) (hd : Vn k d) (hb : Bn k b) (hk : 0 < k) : Sn (3 * k + 1) (spanR (vv o) (vv d) (bv b)) := by
  have hr := clipR_says (o := vv o) (d := vv d) (b := bv b) (placesQ (vv o) (vv d) (bv b))
  have hq : ∀ x, x ∈ placesQ (vv o) (vv d) (bv b) → Qn (3 * k + 1) x := fun q h => by
    rw [placesQ] at h
    rcases List.mem_cons.1 h with rfl | h
    · exact Qn_zero (by omega)
    · have po := Pn_vv ho hk
      have pd := Pn_vv hd hk
      have pb := Bq_bv hb hk
      rcases List.mem_append.1 h with h | h
      · rcases List.mem_append.1 h with h | h
        · exact Qn_edges po.x pd.x pb.lo.x pb.hi.x hk q h
        · exact Qn_edges po.y pd.y pb.lo.y pb.hi.y hk q h
      · exact Qn_edges po.z pd.z pb.lo.z pb.hi.z hk q h
  unfold spanR
  cases hR : clipR (vv o) (vv d) (bv b) (placesQ (vv o) (vv d) (bv b)) with
  | none => exact ⟨Qn_zero (by omega), Qn_zero (by omega)⟩
  | some p =>
    obtain ⟨f, t⟩ := p
    rw [hR] at hr
    exact ⟨hq _ hr.1.1, hq _ hr.2.1.1⟩
end Go.K.S
end
section
namespace Go.K
open Go Go.K.S
theorem within_law {o d : V3} {b : B3} {s : Rat} (hs : 0 ≤ s) : decide (holds b (vat o d s)) = (clipOk o d b && (decide ((clipS o d b).from' ≤ s) && ((clipS o d b).op || decide (s ≤ (clipS o d b).to')))) := by
  have hi := clipI (o := o) (d := d) (b := b) 3
  have hsome : ∀ r, clipP o d b = some r → clipS o d b = r ∧ clipOk o d b = true := fun r h => by unfold clipS clipOk; rw [h]; exact ⟨rfl, rfl⟩
  have hnone : clipP o d b = none → clipOk o d b = false := fun h => by unfold clipOk; rw [h]; rfl
  cases hN : clipN o d b 3 with
  | none =>
    rw [hN] at hi
    rw [hnone (by unfold clipP; rw [hN]; rfl), Bool.false_and]
    exact decide_eq_false fun h => hi s (holds_inN.1 h)
  | some r =>
    rw [hN] at hi
    simp only at hi
    have hm := hi.mem s hs
    by_cases c : r.op = false ∧ r.to' < r.from'
    · rw [hnone (by unfold clipP; rw [hN]; simp only [Option.bind_some, if_pos c]), Bool.false_and]
      refine decide_eq_false fun h => ?_
      have := hm.1 (holds_inN.1 h)
      rw [c.1] at this
      rcases this with ⟨h1, h2 | h2⟩
      · cases h2
      · have := c.2; grind
    · obtain ⟨h1, h2⟩ := hsome r (by unfold clipP; rw [hN]; simp only [Option.bind_some, if_neg c])
      rw [h1, h2, Bool.true_and]
      have : (decide (r.from' ≤ s) && (r.op || decide (s ≤ r.to'))) = decide (r.from' ≤ s ∧ (r.op = true ∨ s ≤ r.to')) := by
        rw [Bool.decide_and, Bool.decide_or]; simp
      rw [this]
      exact decide_eq_decide.2 (holds_inN.trans hm)
end Go.K
namespace Go.K.S
open Go Go.K
set_option maxHeartbeats 8000000
set_option maxRecDepth 20000
theorem Sn_clipS {o d : VL} {b : BL} {k : Nat} (ho : Vn k o) (hd : Vn k d) (hb : Bn k b) (hk : 0 < k) : Sn (3 * k + 1) (clipS (vv o) (vv d) (bv b)) := by
  rw [← (clip_law (vv o) (vv d) (bv b)).1]; exact Sn_spanR ho hd hb hk
end Go.K.S
end
section
namespace Go.K
open Go Go.K.S
theorem rmin_le_left (a b : Rat) : rmin a b ≤ a := by unfold rmin; split <;> grind
theorem rmin_le_right (a b : Rat) : rmin a b ≤ b := by unfold rmin; split <;> grind
theorem le_rmax_right (a b : Rat) : b ≤ rmax a b := by unfold rmax; split <;> grind
theorem btw_widen {x lo hi lo' hi' : Rat} (h : btw x lo hi) : btw x (rmin lo lo') (rmax hi hi') := by
  unfold btw at *
  have := rmin_le_left lo lo'
  have := le_rmax_left hi hi'
  constructor <;> grind
theorem btw_new (x lo hi : Rat) : btw x (rmin lo x) (rmax hi x) := ⟨rmin_le_right _ _, le_rmax_right _ _⟩
theorem holds_join {b c : B3} {p : V3} (h : holds b p) : holds (bjoin b c) p := ⟨btw_widen h.1, btw_widen h.2.1, btw_widen h.2.2⟩
theorem holds_new (b : B3) (v : VL) : holds (bjoin b (bv (pbox v))) (vv v) := ⟨btw_new _ _ _, btw_new _ _ _, btw_new _ _ _⟩
theorem holds_self (v : VL) : holds (bv (pbox v)) (vv v) := ⟨⟨Rat.le_refl, Rat.le_refl⟩, ⟨Rat.le_refl, Rat.le_refl⟩, ⟨Rat.le_refl, Rat.le_refl⟩⟩
theorem around_snoc (l : List VL) (v : VL) : bjoins ((l ++ [v]).map pbox) = if l = [] then bv (pbox v) else bjoin (bjoins (l.map pbox)) (bv (pbox v)) := by
  by_cases h : l = []
  · subst h; rfl
  · rw [if_neg h, List.map_append, List.map_cons, List.map_nil, bjoins_snoc _ _ (by simpa using h)]
theorem around_says (l : List VL) (hl : l ≠ []) : (∀ v, v ∈ l → holds (bjoins (l.map pbox)) (vv v)) ∧ (∃ v, v ∈ l ∧ rv v.x = (bjoins (l.map pbox)).lo.x) ∧ ∃ v, v ∈ l ∧ rv v.z = (bjoins (l.map pbox)).hi.z := by
  obtain ⟨n, hn⟩ : ∃ n, n = l.length := ⟨_, rfl⟩
  induction n generalizing l with
  | zero => exact absurd (List.eq_nil_of_length_eq_zero hn.symm) hl
  | succ n ih =>
    rcases List.eq_nil_or_concat l with rfl | ⟨m, y, rfl⟩
    · exact absurd rfl hl
    · rw [List.concat_eq_append, around_snoc]
      by_cases hm : m = []
      · subst hm
        rw [if_pos rfl]
        refine ⟨fun v hv => ?_, ⟨y, by simp, rfl⟩, ⟨y, by simp, rfl⟩⟩
        rw [List.nil_append, List.mem_singleton] at hv
        subst hv
        exact holds_self v
      · rw [if_neg hm]
        obtain ⟨i1, ⟨v1, m1, e1⟩, v2, m2, e2⟩ := ih m hm (by simp at hn; omega)
        refine ⟨fun v hv => ?_, ?_, ?_⟩
        · rcases List.mem_append.1 hv with q | q
          · exact holds_join (i1 v q)
          · rw [List.mem_singleton.1 q]; exact holds_new _ _
        · show ∃ v, v ∈ m ++ [y] ∧ rv v.x = rmin (bjoins (m.map pbox)).lo.x (rv y.x)
          rcases rmin_or (bjoins (m.map pbox)).lo.x (rv y.x) with q | q <;> rw [q]
          · exact ⟨v1, List.mem_append_left _ m1, e1⟩
          · exact ⟨y, by simp, rfl⟩
        · show ∃ v, v ∈ m ++ [y] ∧ rv v.z = rmax (bjoins (m.map pbox)).hi.z (rv y.z)
          rcases rmax_or (bjoins (m.map pbox)).hi.z (rv y.z) with q | q <;> rw [q]
          · exact ⟨v2, List.mem_append_left _ m2, e2⟩
          · exact ⟨y, by simp, rfl⟩
theorem scat_dVs (l m : List VL) : Ω .scat (Ψ .dVs l) (Ψ .dVs m) = Ψ .dVs (l ++ m) := by simp [w_scat, p_dVs]
end Go.K
namespace Go.K.S
open Go Go.K
set_option maxHeartbeats 8000000
set_option maxRecDepth 20000
end Go.K.S
end
section
namespace Go.K
open Go Go.K.S
theorem btw_mix {a b c u v lo hi : Rat} (ha : btw a lo hi) (hb : btw b lo hi) (hc : btw c lo hi) (hu : 0 ≤ u) (hv : 0 ≤ v) (huv : u + v ≤ 1) : btw (a + u * (b - a) + v * (c - a)) lo hi := by
  unfold btw at *
  have p1 := Rat.mul_nonneg hu (show 0 ≤ b - lo by grind)
  have p2 := Rat.mul_nonneg hv (show 0 ≤ c - lo by grind)
  have p3 := Rat.mul_nonneg (show 0 ≤ 1 - u - v by grind) (show 0 ≤ a - lo by grind)
  have q1 := Rat.mul_nonneg hu (show 0 ≤ hi - b by grind)
  have q2 := Rat.mul_nonneg hv (show 0 ≤ hi - c by grind)
  have q3 := Rat.mul_nonneg (show 0 ≤ 1 - u - v by grind) (show 0 ≤ hi - a by grind)
  constructor <;> grind
theorem hit_point {o d : V3} {t : T3} {m : M3} (h : hitS o d t = some m) : d ≠ v0 ∧ 0 < m.s ∧ 0 ≤ m.u ∧ 0 ≤ m.v ∧ m.u + m.v ≤ 1 ∧ vat o d m.s = vadd t.a (vadd (vmul m.u (vsub t.b t.a)) (vmul m.v (vsub t.c t.a))) := by
  unfold hitS at h
  split at h
  · cases h
  rename_i h0
  split at h
  · cases h
  rename_i hu
  split at h
  · cases h
  rename_i hr
  cases h
  have hd : d ≠ v0 := fun h => h0 (by subst h; unfold vdot vcross v0; grind)
  simp only
  refine ⟨hd, by grind, by grind, by grind, by grind, ?_⟩
  have e : ∀ f b c d : V3, vadd (vmul (vdot b (vcross d c)) f) (vmul (vdot c (vcross f b)) d) = vadd (vmul (vdot f (vcross d c)) b) (vmul (vdot d (vcross f b)) c) := fun f b c d => by
    unfold vadd vmul vdot vcross; simp only [V3.mk.injEq]; refine ⟨?_, ?_, ?_⟩ <;> grind
  have e1 := e (vsub o t.a) (vsub t.b t.a) (vsub t.c t.a) d
  have ho : o = vadd t.a (vsub o t.a) := by
    obtain ⟨x, y, z⟩ := o
    unfold vadd vsub; simp only [V3.mk.injEq]; refine ⟨?_, ?_, ?_⟩ <;> grind
  generalize vsub t.b t.a = b at *
  generalize vsub t.c t.a = c at *
  generalize vsub o t.a = f at *
  generalize vdot b (vcross d c) = det at *
  generalize vdot f (vcross d c) = fp at *
  generalize vdot d (vcross f b) = dq at *
  generalize vdot c (vcross f b) = cq at *
  rw [ho]
  unfold vadd vmul at e1
  simp only [V3.mk.injEq] at e1
  obtain ⟨e2, e3, e4⟩ := e1
  unfold vat vadd vmul; simp only [V3.mk.injEq]; refine ⟨?_, ?_, ?_⟩ <;> grind
theorem Qn_hit {o d : VL} {t : TL} {k : Nat} (ho : Vn k o) (hd : Vn k d) (ht : Tn k t) (hk : 0 < k) {m : M3} (h : hitS (vv o) (vv d) (tv t) = some m) : Qn (60 * k + 60) m.s ∧ Qn (60 * k + 60) m.u ∧ Qn (60 * k + 60) m.v := by
  unfold hitS at h
  split at h
  · cases h
  split at h
  · cases h
  split at h
  · cases h
  cases h
  have po := Pn_vv ho hk
  have pd := Pn_vv hd hk
  have pa := Pn_vv ht.a hk
  have pb := Pn_sub (Pn_vv ht.b hk) pa
  have pc := Pn_sub (Pn_vv ht.c hk) pa
  have pp := Pn_cross pd pc (by omega)
  have qdet := (Qn_dot pb pp (by omega)).mono (show _ ≤ 24 * k + 14 by omega)
  have qk := (Qn_div (Qn_one (k := 1) (by omega)) qdet (by omega)).mono (show _ ≤ 24 * k + 15 by omega)
  have pf := Pn_sub po pa
  have qfp := (Qn_dot pf pp (by omega)).mono (show _ ≤ 24 * k + 14 by omega)
  have pq := Pn_cross pf pb (by omega)
  have qdq := (Qn_dot pd pq (by omega)).mono (show _ ≤ 30 * k + 20 by omega)
  have qcq := (Qn_dot pc pq (by omega)).mono (show _ ≤ 32 * k + 24 by omega)
  exact ⟨(Qn_mul qk qcq (by omega)).mono (by omega), (Qn_mul qk qfp (by omega)).mono (by omega), (Qn_mul qk qdq (by omega)).mono (by omega)⟩
end Go.K
namespace Go.K.S
open Go Go.K
set_option maxHeartbeats 8000000
set_option maxRecDepth 20000
end Go.K.S
end
