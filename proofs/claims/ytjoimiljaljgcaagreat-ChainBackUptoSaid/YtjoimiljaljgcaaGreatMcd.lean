/-
  Parts of the proof, joined by a program of this work: KAlone, KInv2, KLawChainBack.
-/
import Derived.Test.YtjoimiljaljgcaaGreatMcb
import Derived.Test.YtjoimiljaljgcaaGreatMbp
import Derived.Test.YtjoimiljaljgcaaGreatMbn
import Derived.Test.YtjoimiljaljgcaaGreatMbo
set_option linter.unusedSimpArgs false
set_option linter.unusedVariables false
set_option maxHeartbeats 16000000
set_option maxRecDepth 20000
section
namespace Go.K
open Go
def cntS (s : ScL) (p : V3) : Nat → Nat
 | 0 => 0
 | i + 1 => cntS s p i + (if onS p (triF s i) then 1 else 0)
def aloneS (s : ScL) (ps : List V3) : Bool := ps.all fun p => decide (cntS s p s.faces.length ≤ 1)
theorem cntS_le (s : ScL) (p : V3) : ∀ i, cntS s p i ≤ i
 | 0 => Nat.le_refl _
 | i + 1 => by
  have := cntS_le s p i
  rw [cntS]
  split <;> omega
theorem cntS_mono (s : ScL) (p : V3) (i : Nat) : ∀ j, i ≤ j → cntS s p i ≤ cntS s p j
 | 0, h => by
  obtain rfl : i = 0 := by omega
  exact Nat.le_refl _
 | j + 1, h => by
  by_cases e : i = j + 1
  ·rw [e]; exact Nat.le_refl _
  ·have := cntS_mono s p i j (by omega)
   rw [cntS]
   omega
theorem cntS_two {s : ScL} {p : V3} {f g n : Nat} (hfg : f < g) (hg : g < n) (h1 : onS p (triF s f) = true) (h2 : onS p (triF s g) = true) : 2 ≤ cntS s p n := by
 have a1 : cntS s p (f + 1) = cntS s p f + 1 := by rw [cntS, if_pos h1]
 have a2 : cntS s p (g + 1) = cntS s p g + 1 := by rw [cntS, if_pos h2]
 have b1 := cntS_mono s p (f + 1) g (by omega)
 have b2 := cntS_mono s p (g + 1) n (by omega)
 omega
theorem alone_of {s : ScL} {ps : List V3} {p : V3} (h : aloneS s ps = true) (hp : p ∈ ps) : AloneP (triF s) s.faces.length p := by
 intro f g d m m' hf hg r1 r2 r3 r4 r5 r6
 have hc := of_decide_eq_true (List.all_eq_true.1 h p hp)
 have e : vadd p (vmul 0 d) = p := by unfold vadd vmul; simp only; refine V3.mk_eq ?_ ?_ ?_ <;> grind
 have o1 := (inT_raw r1 r3).1
 have o2 := (inT_raw r4 r6).1
 rw [r2, e] at o1
 rw [r5, e] at o2
 have s1 := (onS_iff _ _).2 o1
 have s2 := (onS_iff _ _).2 o2
 rcases Nat.lt_trichotomy f g with h | h | h
 ·have := cntS_two h hg s1 s2; omega
 ·exact h
 ·have := cntS_two h hf s2 s1; omega
theorem way_head {F : Fcs} {l0 : Lk} {g0 : Nat} {l : Lk} {g n : Nat} (w : Way F l0 g0 l g n) : ∀ i, n = i + 1 → ∃ f s k, F.near l0.p l0.dir = some (f, s) ∧ F.bend f l0.dir = some k ∧ Way F (hopS F l0 f s k) f l g i := by
 induction w with
 | start => intro i h; cases h
 | @hop l g n f s k w hn hb ih =>
  intro i h
  cases i with
  | zero =>
   obtain rfl : n = 0 := by omega
   cases w with
   | start => exact ⟨f, s, k, hn, hb, .start⟩
  | succ i =>
   obtain ⟨f1, s1, k1, a1, a2, a3⟩ := ih i (by omega)
   exact ⟨f1, s1, k1, a1, a2, .hop a3 hn hb⟩
theorem way_sub {F : Fcs} : ∀ (n : Nat) (l : Lk) (ps : List V3) (p : V3), p ∈ ps → p ∈ wayS F n l ps
 | n, l, ps, p, h => by
  rw [wayS]
  cases hn : F.near l.p l.dir with
  | none => exact h
  | some x =>
   obtain ⟨f, s⟩ := x
   simp only
   cases hb : F.bend f l.dir with
   | none => exact List.mem_append_left _ h
   | some k =>
    simp only
    cases n with
    | zero => exact h
    | succ n => exact way_sub n _ _ p (List.mem_append_left _ h)
theorem way_mem {F : Fcs} : ∀ (n : Nat) (l : Lk) (ps : List V3) (f : Nat) (l' : Lk), followS F n l = some (f, l') → l.p ∈ ps → ∀ (i g0 : Nat) (l1 : Lk) (g1 : Nat), Way F l g0 l1 g1 i → l1.p ∈ wayS F n l ps
 | n, l, ps, f, l', h, hp, i, g0, l1, g1, w => by
  cases i with
  | zero =>
   cases w with
   | start => exact way_sub n l ps _ hp
  | succ i =>
   obtain ⟨f1, s1, k1, a1, a2, a3⟩ := way_head w i rfl
   rw [followS, a1] at h
   simp only at h
   rw [a2] at h
   simp only at h
   rw [wayS, a1]
   simp only
   rw [a2]
   simp only
   cases n with
   | zero => cases h
   | succ n => exact way_mem n _ _ f l' h (by show vadd l.p (vmul s1 l.dir) ∈ _; exact List.mem_append_right _ (List.mem_singleton.2 rfl)) i _ l1 g1 a3
theorem way_n {F : Fcs} (hF : F.N) {p0 e0 G : Nat} (hG : 2 * e0 + 20000 ≤ G) : ∀ (n i : Nat) (l : Lk) (ps : List V3), i + n = 8 → LkN p0 e0 G i l → (∀ p, p ∈ ps → Cn (p0 + 9 * G) p) → ∀ p, p ∈ wayS F n l ps → Cn (p0 + 9 * G) p
 | n, i, l, ps, hi, h, hps, p, hp => by
  rw [wayS] at hp
  cases hn : F.near l.p l.dir with
  | none => rw [hn] at hp; exact hps p hp
  | some x =>
   obtain ⟨f, s⟩ := x
   rw [hn] at hp
   simp only at hp
   have h1 := h.at hF hG (by omega) hn
   have hiG : (i + 1) * G ≤ 9 * G := Nat.mul_le_mul_right _ (by omega)
   have hps' : ∀ q, q ∈ ps ++ [vadd l.p (vmul s l.dir)] → Cn (p0 + 9 * G) q := fun q hq => by
    rcases List.mem_append.1 hq with hq | hq
    ·exact hps q hq
    ·rw [List.mem_singleton.1 hq]; exact h1.mono (by omega)
   cases hb : F.bend f l.dir with
   | none =>
    rw [hb] at hp
    simp only at hp
    exact hps' p hp
   | some k =>
    rw [hb] at hp
    simp only at hp
    cases n with
    | zero => exact hps p hp
    | succ n =>
     simp only at hp
     exact way_n hF hG n (i + 1) _ _ (by omega) (h.hop hF hG (by omega) hn hb) hps' p hp
theorem way_len {F : Fcs} : ∀ (n : Nat) (l : Lk) (ps : List V3), (wayS F n l ps).length ≤ ps.length + n + 1
 | n, l, ps => by
  rw [wayS]
  cases hn : F.near l.p l.dir with
  | none => simp only; omega
  | some x =>
   obtain ⟨f, s⟩ := x
   simp only
   cases hb : F.bend f l.dir with
   | none => simp only [List.length_append, List.length_singleton]; omega
   | some k =>
    simp only
    cases n with
    | zero => simp only; omega
    | succ n =>
     have := way_len (F := F) n (hopS F l f s k) (ps ++ [vadd l.p (vmul s l.dir)])
     simp only [List.length_append, List.length_singleton] at this
     simp only
     omega
theorem sget_ptsD {ps : List V3} {i : Nat} {p : V3} (h : ps[i]? = some p) : Ω .sget (ptsD ps) i = some (.agg (dV Ψ (Ψ .cV p))) := by
 unfold ptsD
 have : (ps.map (Ψ .cV))[i]? = some (Ψ .cV p) := by rw [List.getElem?_map, h]; rfl
 rw [sget_dVs, this]; rfl
end Go.K
namespace Go.K.S
open Go Go.K
theorem alone15_good (s : ScL) {MD FD : List D} (hD : ScD s MD FD) (ok : ScOk s) (ps : List V3) {N : Nat} (hn : ∀ p, p ∈ ps → Cn N p) (hN : N < 67000000) (hl : ps.length ≤ 100) :
  Good P F.penumbraref15_Alone [.d (.agg (dSc Ψ MD FD s)), .d (.sl (ptsD ps))] [] (.d (.b (aloneS s ps))) [] := by
 refine G.penumbraref15_Alone fun C C2 hC hC2 => ?_
 have hfl := hD.fl
 have hf2 := ok.f2
 have hpl := slen_ptsD ps
 have hg : ∀ i p k, ps[i]? = some p → k < s.faces.length → ∃ ft fm, Ω .sget (ptsD ps) i = some (.agg (dV Ψ (Ψ .cV p))) ∧ Ω .sget FD k = some (.agg (dFace Ψ ⟨ft, fm⟩)) ∧
   Good P F.penumbraref15_On [.d (.agg (dV Ψ (Ψ .cV p))), .d (.agg (dT Ψ ft))] [] (.d (.b (onS p (triF s k)))) [] := fun i p k hp hk => by
  obtain ⟨f, hf⟩ : ∃ f, s.faces[k]? = some f := ⟨_, List.getElem?_eq_getElem hk⟩
  have cp := hn p (List.mem_of_getElem? hp)
  have g := on15_good (Ψ .cV p) f.tri (k := N) (by rw [vv_cV]; exact cp) (Vn_cV cp.size) (ok.n.fv f (List.mem_of_getElem? hf)) hN
  rw [vv_cV] at g
  have e : triF s k = tv f.tri := by unfold triF; rw [hf]
  rw [e]
  exact ⟨f.tri, f.mat, sget_ptsD hp, hD.f k f hf, g⟩
 have hr : aloneS s ps = ps.all fun p => decide (cntS s p s.faces.length ≤ 1) := rfl
 generalize aloneS s ps = R at *
 have hcs : ∀ p k, cntS s p (k + 1) = cntS s p k + (if onS p (triF s k) then 1 else 0) := fun p k => rfl
 have hcl := cntS_le s
 have hc0 : ∀ p, cntS s p 0 = 0 := fun p => rfl
 generalize cntS s = cnt at *
 generalize ptsD ps = PD at *
 generalize s.faces.length = nf at *
 refine rq ?_
 refine LoopG.intro (σ := Nat) [1, 2, 5] [1050] (fun i => [.d (.sl PD), .ptr 1050 0, .d (.i .i64 (Ω .ci i))]) (fun _ => [.var ((dSc Ψ MD FD s).map V.d)]) (fun i => i ≤ ps.length ∧ R = (ps.drop i).all fun p => decide (cnt p nf ≤ 1)) (fun i => ps.length - i) 0 [1000]
  ⟨Nat.zero_le _, hr⟩ ⟨rfl, rfl, rfl⟩ ?_
 rintro i ⟨hi, hR⟩
 have hw := wrap_succ (n := i) (by omega)
 rcases Nat.lt_or_ge i ps.length with hlt | hge
 ·obtain ⟨p, hp⟩ : ∃ p, ps[i]? = some p := ⟨_, List.getElem?_eq_getElem hlt⟩
  have q0 : Ω .lt (Ω .ci i) (Ω .ci (Ω .slen PD)) = true := by rw [hpl]; simp only [wz]; omega
  have hdr : ps.drop i = p :: ps.drop (i + 1) := by
   rw [List.drop_eq_getElem_cons hlt]
   rw [List.getElem?_eq_getElem hlt] at hp
   cases hp
   rfl
  rw [hdr, List.all_cons] at hR
  have hg' := fun k => hg i p k hp
  clear hg hdr hr
  refine rq ?_
  refine LoopG.intro (σ := Nat) [1, 2, 5, 6, 7] [1050] (fun k => [.d (.sl PD), .ptr 1050 0, .d (.i .i64 (Ω .ci i)), .d (.i .i64 (Ω .ci (cnt p k))), .d (.i .i64 (Ω .ci k))]) (fun _ => [.var ((dSc Ψ MD FD s).map V.d)]) (fun k => k ≤ nf) (fun k => nf - k) 0 [1050]
   (Nat.zero_le _) ⟨rfl, (by rw [hc0]; rfl), rfl⟩ ?_
  intro k hk
  have hw2 := wrap_succ (n := k) (by omega)
  have hck := hcl p k
  have hw3 := wrap_succ (n := cnt p k) (by omega)
  rcases Nat.lt_or_ge k nf with hlk | hgk
  ·obtain ⟨ft, fm, x1, x2, x3⟩ := hg' k hlk
   have q1 : Ω .lt (Ω .ci k) (Ω .ci (Ω .slen FD)) = true := by rw [hfl]; simp only [wz]; omega
   have hc := hcs p k
   clear hg' hcs
   cases hb : onS p (triF s k) with
   | true =>
    rw [hb] at x3 hc
    rw [if_pos rfl] at hc
    refine rq ?_
    rw [hw2, hw3]
    exact ⟨k + 1, [1050], hlk, by omega, rfl, (by simp only; rw [hc]; rfl), rfl⟩
   | false =>
    rw [hb] at x3 hc
    rw [if_neg (by decide), Nat.add_zero] at hc
    refine rq ?_
    rw [hw2]
    exact ⟨k + 1, [1050], hlk, by omega, rfl, (by simp only; rw [hc]; rfl), rfl⟩
  ·obtain rfl : k = nf := by omega
   have q1 : Ω .lt (Ω .ci k) (Ω .ci (Ω .slen FD)) = false := by rw [hfl]; simp only [wz]; omega
   clear hg' hcs hc0
   by_cases h1 : cnt p k ≤ 1
   ·have q2 : Ω .lt 1 (Ω .ci (cnt p k)) = false := lt_false.2 (by rw [w_ci]; omega)
    rw [decide_eq_true h1, Bool.true_and] at hR
    generalize cnt p k = c at *
    refine rq ?_
    rw [hw]
    exact ⟨i + 1, [1050], ⟨hlt, hR⟩, by omega, rfl, rfl, rfl⟩
   ·have q2 : Ω .lt 1 (Ω .ci (cnt p k)) = true := lt_true.2 (by rw [w_ci]; omega)
    rw [decide_eq_false h1, Bool.false_and] at hR
    subst hR
    generalize cnt p k = c at *
    exact rq trivial
 ·obtain rfl : i = ps.length := by omega
  have q0 : Ω .lt (Ω .ci ps.length) (Ω .ci (Ω .slen PD)) = false := by rw [hpl]; simp only [wz]; omega
  rw [List.drop_length] at hR
  have hR' : R = true := hR
  subst hR'
  clear hg
  exact rq trivial
end Go.K.S
end
section
namespace Go.K.S
open Go Go.K
theorem inverse2_good (m : MapL) {j k : Nat} (hm : Mpn k m) (hx : Vn j m.x) (hy : Vn j m.y) (hz' : Vn j m.z) (hj0 : 0 < j) (hj : 19 * j + 7 ≤ k) (hk2 : k < 1000000000) :
  Good P F.affine_Inverse [.d (.agg (dMap Ψ m))] [] (.tup [.d (.agg (dMap Ψ (cMap Ψ (if detS (mv m) = 0 then idM else inverseS (mv m))))), .d (.b (decide (detS (mv m) ≠ 0)))]) [] := by
 refine G.affine_Inverse fun C C2 hC hC2 => ?_
 have hk : 0 < k := by omega
 have g1 := of11_good
 have g2 := det_good m hm hk (by omega)
 have qdet : Qn (15 * j + 5) (detS (mv m)) := (Qn_dot (Pn_vv hx hj0) (Pn_cross (Pn_vv hy hj0) (Pn_vv hz' hj0) (by omega)) (by omega)).mono (by omega)
 have g3 := rdiv_good (Ψ .cr 1) (Ψ .cr (detS (mv m))) (j := 1) (k := 15 * j + 5) (Rn_cr.2 Qn_one') (Rn_cr.2 qdet) (by omega) (by omega) (by omega) (by omega)
 rw [rv_cr, rv_cr] at g3
 have g4 := ident_good
 have g5 := cof_good m hm hk (by omega)
 by_cases h0 : detS (mv m) = 0
 ·rw [if_pos h0]
  have e : decide (detS (mv m) ≠ 0) = false := decide_eq_false (fun h => h h0)
  rw [e] at g3 ⊢
  generalize Ψ .cr (1 / detS (mv m)) = K0 at *
  generalize cMap Ψ idM = I at *
  exact rq trivial
 rw [if_neg h0]
 have e : decide (detS (mv m) ≠ 0) = true := decide_eq_true h0
 rw [e] at g3 ⊢
 have qk := (Qn_div Qn_one' qdet (by omega)).mono (show _ ≤ 15 * j + 6 by omega)
 have w1 := Pn_cross (Pn_vv hy hj0) (Pn_vv hz' hj0) (by omega)
 have w2 := Pn_cross (Pn_vv hz' hj0) (Pn_vv hx hj0) (by omega)
 have w3 := Pn_cross (Pn_vv hx hj0) (Pn_vv hy hj0) (by omega)
 have s1 := vscale_good (Ψ .cr (1 / detS (mv m))) (Ψ .cV (vcross (vv m.y) (vv m.z))) (Rn_cr.2 qk) (Vn_cV (w1.mono (show _ ≤ 15 * j + 6 by omega))) (by omega) (by omega)
 have s2 := vscale_good (Ψ .cr (1 / detS (mv m))) (Ψ .cV (vcross (vv m.z) (vv m.x))) (Rn_cr.2 qk) (Vn_cV (w2.mono (show _ ≤ 15 * j + 6 by omega))) (by omega) (by omega)
 have s3 := vscale_good (Ψ .cr (1 / detS (mv m))) (Ψ .cV (vcross (vv m.x) (vv m.y))) (Rn_cr.2 qk) (Vn_cV (w3.mono (show _ ≤ 15 * j + 6 by omega))) (by omega) (by omega)
 rw [rv_cr, vv_cV] at s1 s2 s3
 have t1 := (Pn_mul qk w1 (by omega)).mono (show _ ≤ k by omega)
 have t2 := (Pn_mul qk w2 (by omega)).mono (show _ ≤ k by omega)
 have t3 := (Pn_mul qk w3 (by omega)).mono (show _ ≤ k by omega)
 have em : inverseS (mv m) = ⟨⟨(vmul (1 / detS (mv m)) (vcross (vv m.y) (vv m.z))).x, (vmul (1 / detS (mv m)) (vcross (vv m.z) (vv m.x))).x, (vmul (1 / detS (mv m)) (vcross (vv m.x) (vv m.y))).x⟩,
  ⟨(vmul (1 / detS (mv m)) (vcross (vv m.y) (vv m.z))).y, (vmul (1 / detS (mv m)) (vcross (vv m.z) (vv m.x))).y, (vmul (1 / detS (mv m)) (vcross (vv m.x) (vv m.y))).y⟩,
  ⟨(vmul (1 / detS (mv m)) (vcross (vv m.y) (vv m.z))).z, (vmul (1 / detS (mv m)) (vcross (vv m.z) (vv m.x))).z, (vmul (1 / detS (mv m)) (vcross (vv m.x) (vv m.y))).z⟩,
  vmul (-1) (turnS ⟨⟨(vmul (1 / detS (mv m)) (vcross (vv m.y) (vv m.z))).x, (vmul (1 / detS (mv m)) (vcross (vv m.z) (vv m.x))).x, (vmul (1 / detS (mv m)) (vcross (vv m.x) (vv m.y))).x⟩,
  ⟨(vmul (1 / detS (mv m)) (vcross (vv m.y) (vv m.z))).y, (vmul (1 / detS (mv m)) (vcross (vv m.z) (vv m.x))).y, (vmul (1 / detS (mv m)) (vcross (vv m.x) (vv m.y))).y⟩,
  ⟨(vmul (1 / detS (mv m)) (vcross (vv m.y) (vv m.z))).z, (vmul (1 / detS (mv m)) (vcross (vv m.z) (vv m.x))).z, (vmul (1 / detS (mv m)) (vcross (vv m.x) (vv m.y))).z⟩, v0⟩ (vv m.move))⟩ := rfl
 rw [em]
 clear em
 generalize vmul (1 / detS (mv m)) (vcross (vv m.y) (vv m.z)) = V1 at *
 generalize vmul (1 / detS (mv m)) (vcross (vv m.z) (vv m.x)) = V2 at *
 generalize vmul (1 / detS (mv m)) (vcross (vv m.x) (vv m.y)) = V3' at *
 generalize 1 / detS (mv m) = K0 at *
 have hM : M4n k (⟨⟨V1.x, V2.x, V3'.x⟩, ⟨V1.y, V2.y, V3'.y⟩, ⟨V1.z, V2.z, V3'.z⟩, v0⟩ : M4) := ⟨⟨t1.x, t2.x, t3.x⟩, ⟨t1.y, t2.y, t3.y⟩, ⟨t1.z, t2.z, t3.z⟩, Pn_v0 (by omega)⟩
 have hz : Rn k ⟨false, [], []⟩ := ⟨lim_nil, lim_nil, by simp, by simp⟩
 have ht : turnS (mv ⟨⟨(Ψ .cV V1).x, (Ψ .cV V2).x, (Ψ .cV V3').x⟩, ⟨(Ψ .cV V1).y, (Ψ .cV V2).y, (Ψ .cV V3').y⟩, ⟨(Ψ .cV V1).z, (Ψ .cV V2).z, (Ψ .cV V3').z⟩, ⟨⟨false, [], []⟩, ⟨false, [], []⟩, ⟨false, [], []⟩⟩⟩) (vv m.move)
   = turnS ⟨⟨V1.x, V2.x, V3'.x⟩, ⟨V1.y, V2.y, V3'.y⟩, ⟨V1.z, V2.z, V3'.z⟩, v0⟩ (vv m.move) := by
  unfold turnS mv
  simp only [p_cV, vv, rv_cr]
 have gt := turn_good ⟨⟨(Ψ .cV V1).x, (Ψ .cV V2).x, (Ψ .cV V3').x⟩, ⟨(Ψ .cV V1).y, (Ψ .cV V2).y, (Ψ .cV V3').y⟩, ⟨(Ψ .cV V1).z, (Ψ .cV V2).z, (Ψ .cV V3').z⟩, ⟨⟨false, [], []⟩, ⟨false, [], []⟩, ⟨false, [], []⟩⟩⟩ m.move
  ⟨⟨(Vn_cV t1).x, (Vn_cV t2).x, (Vn_cV t3).x⟩, ⟨(Vn_cV t1).y, (Vn_cV t2).y, (Vn_cV t3).y⟩, ⟨(Vn_cV t1).z, (Vn_cV t2).z, (Vn_cV t3).z⟩, ⟨hz, hz, hz⟩⟩ (hm.move.mono (show k ≤ k by omega)) (by omega) (by omega)
 rw [ht] at gt
 have pt := Pn_turn hM ((Pn_vv hm.move hk).mono (show k ≤ k by omega)) (by omega)
 have gm := rof_good (-1) 1 (by omega) (by omega) (by omega) (by omega)
 have e1 : ((-1 : Int) : Rat) / ((1 : Int) : Rat) = -1 := by
  have h1 : ((1 : Int) : Rat) = 1 := rfl
  have h2 : ((-1 : Int) : Rat) = -1 := rfl
  rw [h1, h2]; grind
 rw [e1] at gm
 have gs := vscale_good (Ψ .cr (-1)) (Ψ .cV (turnS ⟨⟨V1.x, V2.x, V3'.x⟩, ⟨V1.y, V2.y, V3'.y⟩, ⟨V1.z, V2.z, V3'.z⟩, v0⟩ (vv m.move))) (Rn_cr.2 ((Qn_neg Qn_one').mono (show 1 ≤ 6 * k + 2 by omega))) (Vn_cV pt) (by omega) (by omega)
 rw [rv_cr, vv_cV] at gs
 have ed : ∀ T : V3, cMap Ψ (⟨⟨V1.x, V2.x, V3'.x⟩, ⟨V1.y, V2.y, V3'.y⟩, ⟨V1.z, V2.z, V3'.z⟩, T⟩ : M4) = ⟨⟨(Ψ .cV V1).x, (Ψ .cV V2).x, (Ψ .cV V3').x⟩, ⟨(Ψ .cV V1).y, (Ψ .cV V2).y, (Ψ .cV V3').y⟩, ⟨(Ψ .cV V1).z, (Ψ .cV V2).z, (Ψ .cV V3').z⟩, Ψ .cV T⟩ := fun T => rfl
 rw [ed]
 clear ed ht
 generalize turnS ⟨⟨V1.x, V2.x, V3'.x⟩, ⟨V1.y, V2.y, V3'.y⟩, ⟨V1.z, V2.z, V3'.z⟩, v0⟩ (vv m.move) = T at *
 clear hM pt t1 t2 t3 w1 w2 w3 qk qdet
 generalize Ψ .cV (vmul (-1) T) = T2 at *
 generalize Ψ .cV T = T1 at *
 generalize Ψ .cV V1 = A1 at *
 generalize Ψ .cV V2 = A2 at *
 generalize Ψ .cV V3' = A3 at *
 generalize Ψ .cV (vcross (vv m.y) (vv m.z)) = B1 at *
 generalize Ψ .cV (vcross (vv m.z) (vv m.x)) = B2 at *
 generalize Ψ .cV (vcross (vv m.x) (vv m.y)) = B3 at *
 generalize Ψ .cr K0 = K1 at *
 generalize Ψ .cr (-1) = M1 at *
 refine rq ?_
 refine LoopG.intro (σ := Nat) [1, 2, 4, 6, 21] [1050, 1051, 1052, 1053]
  (fun i => [.ptr 1050 0, .ptr 1051 0, .ptr 1052 0, .ptr 1053 0, .d (.i .i64 (match i with | 0 => (0 : Int) | 1 => 1 | 2 => 2 | _ => 3))])
  (fun i => [.var ((dMap Ψ m).map V.d), .var [.d (.b false), .nil, .nil, .d (.b false), .nil, .nil, .d (.b false), .nil, .nil, .d (.b false), .nil, .nil, .d (.b false), .nil, .nil, .d (.b false), .nil, .nil, .d (.b false), .nil, .nil, .d (.b false), .nil, .nil, .d (.b false), .nil, .nil, .d (.b false), .nil, .nil, .d (.b false), .nil, .nil, .d (.b false), .nil, .nil],
   .var ((dR Ψ K1).map V.d), .var ((dV Ψ (if 0 < i then A1 else B1) ++ dV Ψ (if 1 < i then A2 else B2) ++ dV Ψ (if 2 < i then A3 else B3)).map V.d)])
  (fun i => i ≤ 3)
  (fun i => 3 - i) 0 [1000, 1001, 1107, 1402] (Nat.zero_le _) ⟨rfl, rfl, rfl⟩ ?_
 intro i hi
 rcases (show i = 0 ∨ i = 1 ∨ i = 2 ∨ i = 3 by omega) with rfl | rfl | rfl | rfl
 ·refine rq ?_
  exact ⟨1, [1050, 1051, 1052, 1053], by omega, by omega, rfl, rfl, rfl⟩
 ·refine rq ?_
  exact ⟨2, [1050, 1051, 1052, 1053], by omega, by omega, rfl, rfl, rfl⟩
 ·refine rq ?_
  exact ⟨3, [1050, 1051, 1052, 1053], by omega, by omega, rfl, rfl, rfl⟩
 ·exact rq trivial
end Go.K.S
end
section
namespace Go.K
open Go
structure StL where
 sc : ScL
 face : Int
 u : RL
 v : RL
 d : VL
 bin : Int
def dSt (Ψ : (t : Sd) → STy t) (MD FD : List D) (s : ScL) (face : Int) (u v : RL) (d : VL) (bin : Int) : List D := dSc Ψ MD FD s ++ (.i .i64 face :: (dR Ψ u ++ (dR Ψ v ++ (dV Ψ d ++ [.i .i64 bin]))))
theorem back_of {s : ScL} {o d : V3} {bn g0 f : Nat} {l : Lk} {m : MatL} (hc : checkS s = 0) (hb : bn < s.waves.length) (hg : g0 < s.faces.length) (hm : matF s g0 = some m) (k1 : m.kind ≠ 1) (k2 : m.kind ≠ 2)
  (hon : onS o (triF s g0) = true) (hd : vdot d (normS (triF s g0)) ≠ 0) (h : followR s o d (Ω .ci bn) = some (f, l)) (ha : aloneS s (ptsR s o d (Ω .ci bn)) = true) :
  ∃ b, followR s l.p (vmul (-1) l.dir) (Ω .ci bn) = some (g0, b) ∧ b.p = o ∧ b.dir = vmul (-1) d ∧ b.hops = l.hops.reverse ∧ b.map = inverseS l.map ∧ b.gain = l.gain := by
 have hcond : checkS s = 0 ∧ 0 ≤ Ω .ci bn ∧ Ω .ci bn < s.waves.length := ⟨hc, by rw [w_ci]; omega, by rw [w_ci]; omega⟩
 have hbn : (Ω .ci bn).toNat = bn := by rw [w_ci]; omega
 have e : ∀ o d, followR s o d (Ω .ci bn) = followS (fcsOf s bn) 8 (lk0 o d) := fun o d => by unfold followR; rw [if_pos hcond, hbn]
 have ok := scOk_of hc
 have hp : ptsR s o d (Ω .ci bn) = wayS (fcsOf s bn) 8 (lk0 o d) [o] := by unfold ptsR; rw [h, hbn]
 rw [hp] at ha
 rw [e] at h
 have hn : vdot (normS (triF s g0)) d ≠ 0 := fun q => hd (by rw [← q]; unfold vdot; grind)
 have h0 : OnF (triF s) s.faces.length o d g0 := ⟨hg, raw_inT ((onS_iff _ _).1 hon) hn⟩
 have he : ∀ d, (fcsOf s bn).bend g0 d = none := fun d => by
  show (match matF s g0 with | some m => bendM s.waves m bn (decide (vdot d (unitF s g0) < 0)) | none => none) = none
  rw [hm]
  simp only
  unfold bendM
  rw [if_neg k1, if_neg k2]
 obtain ⟨b, r1, r2⟩ := follow_back (ok_F ok hb) (near_F s bn) (geo_F ok hb) h0 he h (fun l1 g i w hi => alone_of ha (way_mem 8 (lk0 o d) [o] f l h (List.mem_singleton.2 rfl) i g0 l1 g w))
 exact ⟨b, by rw [e]; exact r1, r2⟩
theorem point_n {t : T3} {u v : Rat} {k : Nat} (h : Pn 2 t.a ∧ Pn 2 t.b ∧ Pn 2 t.c) (hu : Qn k u) (hv : Qn k v) : Cn (2 * k + 100) (pointS t u v) := by
 have ca := Cn.of h.1
 have cb := (Cn.of h.2.1).sub ca
 have cc := (Cn.of h.2.2).sub ca
 exact (ca.add ((Cn.smul (Cs.of hu) cb).add (Cn.smul (Cs.of hv) cc))).mono (by omega)
end Go.K
namespace Go.K.S
open Go Go.K
theorem chainBack_good (x : StL) (hx : Scn 1048576 x.sc ∧ (-9223372036854775808 ≤ x.face ∧ x.face ≤ 9223372036854775807) ∧ Rn 1048576 x.u ∧ Rn 1048576 x.v ∧ Vn 1048576 x.d ∧ (-9223372036854775808 ≤ x.bin ∧ x.bin ≤ 9223372036854775807)) :
  Good P F.penumbralaw15_ChainBack [.d (.agg (dSt Ψ (matsD x.sc.mats) (facesD x.sc.faces) x.sc x.face x.u x.v x.d x.bin))] [] (.d (.b true)) [] := by
 obtain ⟨s, face, u, v, d, bin⟩ := x
 obtain ⟨hs, hface, hu, hv, hd, hbin⟩ := hx
 simp only at hs hface hu hv hd hbin ⊢
 refine G.penumbralaw15_ChainBack fun C C2 hC hC2 => ?_
 have hD := scD_of s
 obtain ⟨K, hK⟩ : ∃ K, K = 1048576 := ⟨_, rfl⟩
 rw [← hK] at hs hu hv hd
 have gck := check9_good s hD hs (by omega) (by omega)
 have g4 := fixed15_good
 unfold dSt
 by_cases hc : checkS s = 0
 rotate_left
 ·have q : Ω .ne (checkS s) 0 = true := ne_true'.2 hc
  clear hD
  generalize checkS s = c at *
  generalize matsD s.mats = MD at *
  generalize facesD s.faces = FD at *
  first | exact rq (Q := True) trivial | (refine rq ?_; rfl)
 rw [hc] at gck
 have qc : Ω .ne 0 0 = false := rfl
 by_cases h0 : 0 ≤ face
 rotate_left
 ·have q : Ω .lt face 0 = true := lt_true.2 (by omega)
  clear hD
  generalize matsD s.mats = MD at *
  generalize facesD s.faces = FD at *
  first | exact rq (Q := True) trivial | (refine rq ?_; rfl)
 have q1 : Ω .lt face 0 = false := lt_false.2 h0
 have hfl := hD.fl
 by_cases h1 : face < s.faces.length
 rotate_left
 ·have q : Ω .le (Ω .ci (Ω .slen (facesD s.faces))) face = true := le_true.2 (by rw [hfl, w_ci]; omega)
  clear hD
  generalize matsD s.mats = MD at *
  generalize facesD s.faces = FD at *
  first | exact rq (Q := True) trivial | (refine rq ?_; rfl)
 have q2 : Ω .le (Ω .ci (Ω .slen (facesD s.faces))) face = false := le_false.2 (by rw [hfl, w_ci]; omega)
 obtain ⟨g0, rfl⟩ : ∃ g, face = Ω .ci g := ⟨face.toNat, by rw [w_ci]; omega⟩
 have hg0 : g0 < s.faces.length := by rw [w_ci] at h1; omega
 have ok := scOk_of hc
 obtain ⟨fc, m, m1, m2, m3, m4⟩ := matF_some ok hg0
 have gm := mat15_good s hD m1 m2 m3
 unfold dMat at gm
 by_cases k1 : m.kind = 1
 ·have e1 : Ω .eq m.kind 1 = true := eq_true'.2 k1
  clear hD
  generalize matsD s.mats = MD at *
  generalize facesD s.faces = FD at *
  first | exact rq (Q := True) trivial | (refine rq ?_; rfl)
 have e1 : Ω .eq m.kind 1 = false := eq_false'.2 k1
 by_cases k2 : m.kind = 2
 ·have e2 : Ω .eq m.kind 2 = true := eq_true'.2 k2
  clear hD
  generalize matsD s.mats = MD at *
  generalize facesD s.faces = FD at *
  first | exact rq (Q := True) trivial | (refine rq ?_; rfl)
 have e2 : Ω .eq m.kind 2 = false := eq_false'.2 k2
 have x1 := hD.f g0 fc m1
 have htf := ok.n.fv fc (List.mem_of_getElem? m1)
 have et : triF s g0 = tv fc.tri := by unfold triF; rw [m1]
 have gp := tpoint_good fc.tri u v (k := K) (htf.mono (by omega)) hu hv (by omega) (by omega)
 have cpp : Cn (2 * K + 100) (pointS (tv fc.tri) (rv u) (rv v)) := point_n (T3n htf (by omega)) (Qn_rv hu (by omega)) (Qn_rv hv (by omega))
 have gn := tnormal_good fc.tri htf (by omega) (by omega)
 have pn : Pn 21 (normS (tv fc.tri)) := Pn_norm (T3n htf (by omega)) (by omega)
 have gd := vdot_good d (Ψ .cV (normS (tv fc.tri))) (k := K) hd ((Vn_cV pn).mono (by omega)) (by omega) (by omega)
 rw [vv_cV] at gd
 have qd : Cs (3 * K + 100) (vdot (vv d) (normS (tv fc.tri))) := ((Cn.of (Pn_vv hd (by omega))).dot (Cn.of pn)).mono (by omega)
 have gsg := sign_good (Ψ .cr (vdot (vv d) (normS (tv fc.tri)))) (Rn_cr.2 qd.size) (by omega)
 rw [rv_cr] at gsg
 have qz := @qs_zero (vdot (vv d) (normS (tv fc.tri)))
 generalize hop : pointS (tv fc.tri) (rv u) (rv v) = op at *
 obtain ⟨p0, hp0⟩ : ∃ p, p = 2 * K + 100 := ⟨_, rfl⟩
 rw [← hp0] at cpp
 have vo : Vn (p0 + 1) (Ψ .cV op) := Vn_cV cpp.size
 have gon := on15_good (Ψ .cV op) fc.tri (k := p0) (by rw [vv_cV]; exact cpp) vo htf (by omega)
 rw [vv_cV] at gon
 by_cases hdn : vdot (vv d) (normS (tv fc.tri)) = 0
 ·rw [decide_eq_true hdn] at qz
  clear hD hdn qd pn
  generalize matsD s.mats = MD at *
  generalize facesD s.faces = FD at *
  generalize Ψ .sI (vdot (vv d) (normS (tv fc.tri))) = SG at *
  generalize Ψ .cr (vdot (vv d) (normS (tv fc.tri))) = DT at *
  generalize Ψ .cV (normS (tv fc.tri)) = NV at *
  generalize Ψ .cV op = O at *
  obtain ⟨ft, fm⟩ := fc
  simp only at x1 gp gn
  first | exact rq (Q := True) trivial | (refine rq ?_; rfl)
 rw [decide_eq_false hdn] at qz
 cases hon : onS op (tv fc.tri) with
 | false =>
  rw [hon] at gon
  clear hD hdn qd pn
  generalize matsD s.mats = MD at *
  generalize facesD s.faces = FD at *
  generalize Ψ .sI (vdot (vv d) (normS (tv fc.tri))) = SG at *
  generalize Ψ .cr (vdot (vv d) (normS (tv fc.tri))) = DT at *
  generalize Ψ .cV (normS (tv fc.tri)) = NV at *
  generalize Ψ .cV op = O at *
  obtain ⟨ft, fm⟩ := fc
  simp only at x1 gp gn gon
  first | exact rq (Q := True) trivial | (refine rq ?_; rfl)
 | true =>
 rw [hon] at gon
 obtain ⟨e0, he0⟩ : ∃ e, e = 3 * K := ⟨_, rfl⟩
 obtain ⟨gr, hgr⟩ : ∃ g, g = 2 * e0 + 20000 := ⟨_, rfl⟩
 have cd : Cn e0 (vv d) := by rw [he0]; exact Cn.of (Pn_vv hd (by omega))
 have hm8 : mvB p0 gr 8 < 260000000 := by simp only [mvB]; omega
 have hm7 : mvB p0 gr 7 < 260000000 := Nat.lt_of_le_of_lt (mvB_8 _ _ 7 (by omega)) hm8
 have co : Cn p0 (vv (Ψ .cV op)) := by rw [vv_cV]; exact cpp
 have g1 := follow_good s hD hs (by omega) (by omega) (Ψ .cV op) d (K := p0 + 1) (p0 := p0) (e0 := e0) (gr := gr) (by omega) vo (hd.mono (by omega)) (by omega) co cd bin (by omega) (by omega)
 have g2 := follow15_good s hD hs (by omega) (by omega) (Ψ .cV op) d (K := p0 + 1) (p0 := p0) (e0 := e0) (gr := gr) (by omega) vo (hd.mono (by omega)) (by omega) co cd bin (by omega) (by omega)
 rw [vv_cV] at g1 g2
 cases hR : followR s op (vv d) bin with
 | none =>
  have hp : ptsR s op (vv d) bin = [] := by unfold ptsR; rw [hR]
  rw [hR] at g1 g2
  rw [hp] at g2
  simp only [lkD, lkL, Option.isSome_none] at g1 g2
  unfold dL at g2
  unfold dLk at g1 g2
  simp only at g2
  have hpz : ptsD [] = [] := rfl
  rw [hpz, oD_ok.nil] at g2
  clear hD hdn qd pn hR hp hpz co cd cpp vo hm7 hm8
  generalize matsD s.mats = MD at *
  generalize facesD s.faces = FD at *
  generalize Ψ .sI (vdot (vv d) (normS (tv fc.tri))) = SG at *
  generalize Ψ .cr (vdot (vv d) (normS (tv fc.tri))) = DT at *
  generalize Ψ .cV (normS (tv fc.tri)) = NV at *
  generalize Ψ .cV op = O at *
  obtain ⟨ft, fm⟩ := fc
  simp only at x1 gp gn gon
  first | exact rq (Q := True) trivial | (refine rq ?_; rfl)
 | some y =>
 obtain ⟨f, l⟩ := y
 have hR2 := hR
 unfold followR at hR2
 split at hR2
 rotate_left
 ·cases hR2
 rename_i hc3
 obtain ⟨_, hb0, hb1⟩ := hc3
 clear hR2
 obtain ⟨bn, rfl⟩ : ∃ bn, bin = Ω .ci bn := ⟨bin.toNat, by rw [w_ci]; omega⟩
 have hbn : (Ω .ci bn).toNat = bn := by rw [w_ci]; omega
 have hbl : bn < s.waves.length := by rw [w_ci] at hb1; omega
 have nF := n_F ok bn
 have hpts : ptsR s op (vv d) (Ω .ci bn) = wayS (fcsOf s bn) 8 (lk0 op (vv d)) [op] := by unfold ptsR; rw [hR, hbn]
 have hpn : ∀ p, p ∈ ptsR s op (vv d) (Ω .ci bn) → Cn (p0 + 9 * gr) p := fun p hp => by
  rw [hpts] at hp
  exact way_n nF (by omega) 8 0 _ [op] (by omega) (LkN.start cpp cd) (fun q hq => by rw [List.mem_singleton.1 hq]; exact cpp.mono (by omega)) p hp
 have hpl : (ptsR s op (vv d) (Ω .ci bn)).length ≤ 100 := by
  rw [hpts]
  have := way_len (F := fcsOf s bn) 8 (lk0 op (vv d)) [op]
  simp only [List.length_singleton] at this
  omega
 have gal := alone15_good s hD ok (ptsR s op (vv d) (Ω .ci bn)) (N := p0 + 9 * gr) hpn (by omega) hpl
 have hE := followR_n (p0 := p0) (e0 := e0) (G := gr) (by omega) cpp cd hR
 have qbb : Ω .lt 1 0 = false := rfl
 cases hal : aloneS s (ptsR s op (vv d) (Ω .ci bn)) with
 | false =>
  rw [hal] at gal
  rw [hR] at g1 g2
  simp only [lkD, lkL, Option.isSome_some] at g1 g2
  unfold dL at g2
  unfold dLk at g1 g2
  simp only at g2
  clear hD hdn qd pn hR co cd cpp vo hm7 hm8 hE hpn hpl hpts nF hal
  generalize ptsD (ptsR s op (vv d) (Ω .ci bn)) = PD at *
  generalize matsD s.mats = MD at *
  generalize facesD s.faces = FD at *
  generalize oD l.hops = HD at *
  generalize Ψ .cV l.p = LP at *
  generalize Ψ .cV l.dir = LD at *
  generalize cMap Ψ l.map = LM at *
  generalize Ψ .cr l.gain = LG at *
  generalize Ψ .sI (vdot (vv d) (normS (tv fc.tri))) = SG at *
  generalize Ψ .cr (vdot (vv d) (normS (tv fc.tri))) = DT at *
  generalize Ψ .cV (normS (tv fc.tri)) = NV at *
  generalize Ψ .cV op = O at *
  obtain ⟨ft, fm⟩ := fc
  simp only at x1 gp gn gon
  first | exact rq (Q := True) trivial | (refine rq ?_; rfl)
 | true =>
 rw [hal] at gal
 have hdn' : vdot (vv d) (normS (triF s g0)) ≠ 0 := by rw [et]; exact hdn
 obtain ⟨b, b1, b2, b3, b4, b5, b6⟩ := back_of hc hbl hg0 m4 k1 k2 (by rw [et]; exact hon) hdn' hR hal
 obtain ⟨p1, hp1⟩ : ∃ p, p = p0 + 9 * gr := ⟨_, rfl⟩
 obtain ⟨e1', he1⟩ : ∃ e, e = e0 + 7441 := ⟨_, rfl⟩
 obtain ⟨gr1, hgr1⟩ : ∃ g, g = 2 * e1' + 20000 := ⟨_, rfl⟩
 have qm1 : Qn 1 (-1 : Rat) := Qn_neg Qn_one'
 have clp : Cn p1 l.p := by rw [hp1]; exact hE.p
 have cld : Cn e1' (vmul (-1) l.dir) := (Cn.smul (Cs.of qm1) hE.d).mono (by omega)
 have hmv : mvB p1 gr1 8 < 800000000 := by simp only [mvB]; omega
 have hmv7 : mvB p1 gr1 7 < 714000000 := by simp only [mvB]; omega
 have g3 := follow_good s hD hs (by omega) (by omega) (Ψ .cV l.p) (Ψ .cV (vmul (-1) l.dir)) (K := p1 + 1) (p0 := p1) (e0 := e1') (gr := gr1) (by omega) (Vn_cV clp.size) (Vn_cV (cld.size.mono (by omega))) (by omega) (by rw [vv_cV]; exact clp) (by rw [vv_cV]; exact cld) (Ω .ci bn) (by omega) (by omega)
 rw [vv_cV, vv_cV, b1] at g3
 rw [hR] at g1 g2
 have hEb := followR_n (p0 := p1) (e0 := e1') (G := gr1) (by omega) clp cld b1
 obtain ⟨N, hN⟩ : ∃ N, N = 800000000 := ⟨_, rfl⟩
 have nL := hE.n (k := N) f (by omega) (by omega) (by omega)
 have nB := hEb.n (k := N) g0 (by omega) (by omega) (by omega)
 have nLM : Mpn N (cMap Ψ l.map) := nL.m
 have nLD : Vn N (Ψ .cV l.dir) := nL.d
 have nBP : Vn N (Ψ .cV b.p) := nB.p
 have nBM : Mpn N (cMap Ψ b.map) := nB.m
 have nBG : Rn N (Ψ .cr b.gain) := nB.g
 have nBD : Vn N (Ψ .cV b.dir) := nB.d
 have ginv := inverse2_good (cMap Ψ l.map) (j := 7442) nLM (Vn_cV hE.m.x.size) (Vn_cV hE.m.y.size) (Vn_cV hE.m.z.size) (by omega) (by omega) (by omega)
 rw [mv_cMap] at ginv
 have hdet : detS l.map ≠ 0 := by
  have h := hR
  unfold followR at h
  split at h
  ·have g := follow_straight (ok_F ok (bin := (Ω .ci bn).toNat) (by rw [hbn]; exact hbl)) op (vv d) 8 (lk0 op (vv d)) f l h ⟨0, by decide, by
    show applyS idM op = _
    rw [apply_id]; obtain ⟨x, y, z⟩ := op; unfold vadd vmul; simp only; refine V3.mk_eq ?_ ?_ ?_ <;> grind⟩ (turn_id _) (by show detS idM ≠ 0; decide +kernel)
   exact g.2.2.1
  ·cases h
 rw [if_neg hdet, decide_eq_true hdet, ← b5] at ginv
 have gm1 := ofm1_good
 have gsc := vscale_good (Ψ .cr (-1)) (Ψ .cV l.dir) (k := N) ((Rn_cr.2 qm1).mono (by omega)) nLD (by omega) (by omega)
 rw [rv_cr, vv_cV] at gsc
 have gsb := vscale_good (Ψ .cr (-1)) (Ψ .cV b.dir) (k := N) ((Rn_cr.2 qm1).mono (by omega)) nBD (by omega) (by omega)
 have emm : vmul (-1) b.dir = vv d := by rw [b3]; generalize vv d = w; obtain ⟨x, y, z⟩ := w; unfold vmul; simp only; refine V3.mk_eq ?_ ?_ ?_ <;> grind
 rw [rv_cr, vv_cV, emm] at gsb
 have grd := vread_good d hd (by omega)
 have nvd : Vn (e0 + 1) (Ψ .cV (vv d)) := Vn_cV cd.size
 have i1 := is5_good _ _ nBP nBP (by omega) (by omega)
 have i2 := is7_good _ _ nBM nBM (by omega) (by omega)
 have i3 := is3_good _ _ nBG nBG (by omega) (by omega)
 have i4 := is5_good _ _ nvd nvd (by omega) (by omega)
 rw [decide_eq_true rfl] at i1 i2 i3 i4
 simp only [lkD, lkL, Option.isSome_some] at g1 g2 g3
 unfold dL at g2
 unfold dLk at g1 g2 g3
 simp only at g2
 rw [b2] at g3 i1
 rw [b4, b6] at g3
 rw [b6] at i3
 have hh8 := hE.h
 have hol := oD_ok.len l.hops
 have hog := oD_ok.get l.hops
 have hrl := oD_ok.len l.hops.reverse
 have hrg := oD_ok.get l.hops.reverse
 rw [List.length_reverse] at hrl
 have qnn : Ω .ne (Ω .ci (Ω .slen (oD l.hops.reverse))) (Ω .ci (Ω .slen (oD l.hops))) = false := by rw [hrl, hol]; exact ne_false'.2 rfl
 have qff : Ω .ne (Ω .ci g0) (Ω .ci g0) = false := ne_false'.2 rfl
 have hst : ∀ i, i < l.hops.length → ∃ j, Ω .sget (oD l.hops.reverse) i = some (.i .i64 (Ω .ci j)) ∧ Ω .sget (oD l.hops) (l.hops.length - 1 - i) = some (.i .i64 (Ω .ci j)) := fun i hi => by
  obtain ⟨j, hj⟩ : ∃ j, l.hops[l.hops.length - 1 - i]? = some j := ⟨_, List.getElem?_eq_getElem (by omega)⟩
  exact ⟨j, hrg i j (by rw [List.getElem?_reverse hi]; exact hj), hog _ j hj⟩
 clear hD hdn hdn' qd pn hR co cd cpp vo hm7 hm8 hE hEb hpn hpl hpts nF hal hon b1 b2 b3 b4 b5 b6 nL nB nLM nLD nBP nBM nBG nBD nvd emm hdet qm1 clp cld hmv hmv7 hog hrg hrl m1 m2 m3 m4 htf hb0 hb1 ok gck
 generalize ptsD (ptsR s op (vv d) (Ω .ci bn)) = PD at *
 generalize oD l.hops.reverse = HB at *
 generalize oD l.hops = HD at *
 generalize Ψ .cV l.p = LP at *
 generalize Ψ .cV (vmul (-1) l.dir) = LDN at *
 generalize Ψ .cV l.dir = LD at *
 generalize cMap Ψ l.map = LM at *
 generalize Ψ .cr l.gain = LG at *
 generalize Ψ .cV b.dir = BD at *
 generalize cMap Ψ b.map = BM at *
 generalize Ψ .cV (vv d) = VD at *
 generalize Ψ .cr (-1) = M1 at *
 generalize Ψ .sI (vdot (vv d) (normS (tv fc.tri))) = SG at *
 generalize Ψ .cr (vdot (vv d) (normS (tv fc.tri))) = DT at *
 generalize Ψ .cV (normS (tv fc.tri)) = NV at *
 generalize Ψ .cV op = O at *
 generalize l.hops.length = nh at *
 generalize Ω .ci f = fi at *
 have gck := check9_good s (scD_of s) hs (by omega) (by omega)
 rw [hc] at gck
 generalize matsD s.mats = MD at *
 generalize facesD s.faces = FD at *
 obtain ⟨ft, fm⟩ := fc
 simp only at x1 gp gn gon
 refine rq ?_
 refine LoopG.intro (σ := Nat) [1, 6, 11, 15, 16] [1050, 1051, 1052]
  (fun i => [.ptr 1050 0, .ptr 1051 0, .ptr 1052 0, .d (.i .i64 (Ω .ci (Ω .slen HD))), .d (.i .i64 (Ω .ci i))])
  (fun i => [.var ((dSc Ψ MD FD s ++ (D.i .i64 (Ω .ci g0) :: (dR Ψ u ++ (dR Ψ v ++ (dV Ψ d ++ [D.i .i64 (Ω .ci bn)]))))).map V.d), .var ((dLk Ψ fi HD LP LD LM LG).map V.d), .var ((dLk Ψ (Ω .ci g0) HB O BD BM LG).map V.d)])
  (fun i => i ≤ nh) (fun i => nh - i) 0 [1000, 1709, 2312] (Nat.zero_le _) ⟨rfl, rfl, rfl⟩ ?_
 intro i hi
 have hw := wrap_succ (n := i) (by omega)
 rcases Nat.lt_or_ge i nh with hlt | hge
 ·obtain ⟨j, s1, s2⟩ := hst i hlt
  have q0 : Ω .lt (Ω .ci i) (Ω .ci (Ω .slen HD)) = true := by rw [hol]; simp only [wz]; omega
  have hw1 : Ω .wrap .i64 (Ω .ci (Ω .slen HD) - 1) = Ω .ci (nh - 1) := by rw [hol]; exact wrap_pred (by omega) (by omega)
  have hw2 : Ω .wrap .i64 (Ω .ci (nh - 1) - Ω .ci i) = Ω .ci (nh - 1 - i) := wrap_sub (by omega) (by omega)
  have qj : Ω .ne (Ω .ci j) (Ω .ci j) = false := ne_false'.2 rfl
  clear hst
  refine rq ?_
  rw [hw1, hw2]
  refine rq ?_
  rw [hw]
  exact ⟨i + 1, [1050, 1051, 1052], hlt, by omega, rfl, rfl, rfl⟩
 ·obtain rfl : i = nh := by omega
  have q0 : Ω .lt (Ω .ci i) (Ω .ci (Ω .slen HD)) = false := by rw [hol]; simp only [wz]; omega
  clear hst
  first | exact rq (Q := True) trivial | (refine rq ?_; rfl)
end Go.K.S
end
