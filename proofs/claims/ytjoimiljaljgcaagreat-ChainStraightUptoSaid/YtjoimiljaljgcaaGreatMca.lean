/-
  Parts of the proof, joined by a program of this work: KScale, KLawChainStraight.
-/
import Derived.Test.YtjoimiljaljgcaaGreatMbp
import Derived.Test.YtjoimiljaljgcaaGreatMbo
set_option linter.unusedSimpArgs false
set_option linter.unusedVariables false
set_option maxHeartbeats 16000000
set_option maxRecDepth 20000
section
namespace Go.K
open Go
def byM (c : Rat) (m : M3) : M3 := ⟨m.s / c, m.u, m.v⟩
theorem raw_scale {c : Rat} (hc : c ≠ 0) (o d : V3) (t : T3) : rawS o (vmul c d) t = (rawS o d t).map (byM c) := by
 unfold rawS
 have e1 : vdot (vsub t.b t.a) (vcross (vmul c d) (vsub t.c t.a)) = c * vdot (vsub t.b t.a) (vcross d (vsub t.c t.a)) := by unfold vdot vcross vmul; simp only; grind
 have e2 : vdot (vsub o t.a) (vcross (vmul c d) (vsub t.c t.a)) = c * vdot (vsub o t.a) (vcross d (vsub t.c t.a)) := by unfold vdot vcross vmul; simp only; grind
 have e3 : vdot (vmul c d) (vcross (vsub o t.a) (vsub t.b t.a)) = c * vdot d (vcross (vsub o t.a) (vsub t.b t.a)) := by unfold vdot vmul; simp only; grind
 rw [e1, e2, e3]
 generalize vdot (vsub t.b t.a) (vcross d (vsub t.c t.a)) = det
 generalize vdot (vsub o t.a) (vcross d (vsub t.c t.a)) = fp
 generalize vdot d (vcross (vsub o t.a) (vsub t.b t.a)) = dq
 generalize vdot (vsub t.c t.a) (vcross (vsub o t.a) (vsub t.b t.a)) = cq
 by_cases h0 : det = 0
 ·rw [if_pos (by rw [h0, Rat.mul_zero]), if_pos h0]; rfl
 have h1 : c * det ≠ 0 := fun e => by rcases Rat.mul_eq_zero.1 e with h | h <;> contradiction
 rw [if_neg h1, if_neg h0]
 show _ = some (byM c _)
 unfold byM
 simp only
 congr 2 <;> grind
theorem div_pos {x c : Rat} (hc : 0 < c) : 0 < x / c ↔ 0 < x := by
 have e : x / c * c = x := by grind
 constructor
 ·intro h
  have := Rat.mul_pos h hc
  rw [e] at this; exact this
 ·intro h
  have hi : 0 < 1 / c := by
   rw [Rat.div_def, Rat.one_mul]
   exact Rat.inv_pos.2 hc
  have := Rat.mul_pos h hi
  have e2 : x * (1 / c) = x / c := by grind
  rw [e2] at this; exact this
theorem hit_scale {c : Rat} (hc : 0 < c) {o d : V3} {t : T3} {m : M3} (h : hitS o d t = some m) : hitS o (vmul c d) t = some (byM c m) := by
 obtain ⟨h1, h2, h3⟩ := hit_raw.1 h
 refine hit_raw.2 ⟨by rw [raw_scale (by grind), h1]; rfl, ?_, h3⟩
 exact (div_pos hc).2 h2
theorem vmul_inv {c : Rat} (hc : c ≠ 0) (d : V3) : vmul (1 / c) (vmul c d) = d := by
 rw [vmul_vmul]
 have : 1 / c * c = 1 := by grind
 rw [this]
 unfold vmul
 obtain ⟨x, y, z⟩ := d
 simp only [Rat.one_mul]
theorem inv_pos' {c : Rat} (hc : 0 < c) : 0 < 1 / c := (div_pos hc).2 (by decide)
theorem hit_unscale {c : Rat} (hc : 0 < c) {o d : V3} {t : T3} {m : M3} (h : hitS o (vmul c d) t = some m) : hitS o d t = some (byM (1 / c) m) := by
 have := hit_scale (inv_pos' hc) h
 rw [vmul_inv (by grind)] at this
 exact this
theorem near_scale {F : Fcs} {tri : Nat → T3} {N : Nat} (hF : F.Near tri N) {c : Rat} (hc : 0 < c) (o d : V3) : F.near o (vmul c d) = (F.near o d).map fun x => (x.1, x.2 / c) := by
 cases h : F.near o d with
 | none =>
  cases h2 : F.near o (vmul c d) with
  | none => rfl
  | some x =>
   obtain ⟨f, s⟩ := x
   obtain ⟨hf, m, h3, _⟩ := hF.some _ _ _ _ h2
   have := hit_unscale hc h3
   rw [hF.none _ _ h f hf] at this
   cases this
 | some x =>
  obtain ⟨f, s⟩ := x
  obtain ⟨hf, m, h3, h4, h5⟩ := hF.some _ _ _ _ h
  cases h2 : F.near o (vmul c d) with
  | none =>
   have := hit_scale hc h3
   rw [hF.none _ _ h2 f hf] at this
   cases this
  | some y =>
   obtain ⟨g, s'⟩ := y
   obtain ⟨hg, m', g3, g4, g5⟩ := hF.some _ _ _ _ h2
   have a1 := g5 f _ hf (hit_scale hc h3)
   have a2 := h5 g _ hg (hit_unscale hc g3)
   have b1 : (byM c m).s = s / c := by rw [← h4]; rfl
   have b2 : (byM (1 / c) m').s = s' * c := by rw [← g4]; show m'.s / (1 / c) = _; grind
   rw [b1] at a1
   rw [b2] at a2
   have e1 : s / c * c = s := by grind
   have key : s' = s / c ∧ g = f := by
    rcases a1 with a1 | ⟨a1, a1'⟩
    ·have := Rat.mul_lt_mul_of_pos_right a1 hc
     rw [e1] at this
     rcases a2 with a2 | ⟨a2, _⟩ <;> (exfalso; grind)
    ·rw [a1, e1] at a2
     rcases a2 with a2 | ⟨_, a2⟩
     ·exfalso; grind
     ·exact ⟨a1, by omega⟩
   rw [key.1, key.2]
   rfl
theorem bend_scale {s : ScL} {bin : Nat} {c : Rat} (hc : 0 < c) (f : Nat) (d : V3) : (fcsOf s bin).bend f (vmul c d) = (fcsOf s bin).bend f d := by
 show (match matF s f with | some m => bendM s.waves m bin (decide (vdot (vmul c d) (unitF s f) < 0)) | none => none) = (match matF s f with | some m => bendM s.waves m bin (decide (vdot d (unitF s f) < 0)) | none => none)
 have e : vdot (vmul c d) (unitF s f) = c * vdot d (unitF s f) := by unfold vdot vmul; simp only; grind
 have q : decide (vdot (vmul c d) (unitF s f) < 0) = decide (vdot d (unitF s f) < 0) := by
  rw [e]
  generalize vdot d (unitF s f) = x
  refine decide_eq_decide.2 ⟨fun h => ?_, fun h => ?_⟩
  ·have := (div_pos (x := -(c * x)) hc).2 (by grind)
   have e2 : -(c * x) / c = -x := by grind
   rw [e2] at this; grind
  ·have := Rat.mul_pos hc (show 0 < -x by grind)
   grind
 rw [q]
theorem followR_scale (s : ScL) (o d : V3) (bin : Int) {c : Rat} (hc : 0 < c) : followR s o (vmul c d) bin = (followR s o d bin).map fun x => (x.1, scaleL c x.2) := by
 unfold followR
 split
 ·exact follow_scale (F := fcsOf s bin.toNat) (c := c) (by grind) (near_scale (near_F s _) hc) (fun f d => bend_scale hc f d) 8 (lk0 o d)
 ·rfl
theorem raw_zero (o : V3) (t : T3) : rawS o v0 t = none := by
 unfold rawS
 rw [if_pos (by unfold vdot vcross v0; simp only; grind)]
theorem dot_pos {d : V3} (h : d ≠ v0) : 0 < vdot d d := by
 have hs : ∀ x : Rat, 0 ≤ x * x := fun x => by
  rcases (@Rat.le_total 0 x) with h | h
  ·exact Rat.mul_nonneg h h
  ·have := Rat.mul_nonneg (show 0 ≤ -x by grind) (show 0 ≤ -x by grind); grind
 obtain ⟨x, y, z⟩ := d
 have h1 := hs x
 have h2 := hs y
 have h3 := hs z
 show 0 < x * x + y * y + z * z
 refine Rat.not_le.1 fun hle => h ?_
 have z1 : x * x = 0 := by grind
 have z2 : y * y = 0 := by grind
 have z3 : z * z = 0 := by grind
 have e : ∀ x : Rat, x * x = 0 → x = 0 := fun x h => by rcases Rat.mul_eq_zero.1 h with h | h <;> exact h
 rw [e x z1, e y z2, e z z3]
 rfl
theorem followR_straight {s : ScL} {o d : V3} {bin : Int} {f : Nat} {l : Lk} (h : followR s o d bin = some (f, l)) :
  (∃ t : Rat, 0 < t ∧ applyS l.map l.p = vadd o (vmul t d)) ∧ turnS l.map l.dir = d ∧ detS l.map ≠ 0 ∧ l.hops.length ≤ 8 ∧ 0 < vdot d d := by
 unfold followR at h
 split at h
 ·rename_i hc
  have hb : bin.toNat < s.waves.length := by omega
  have g := follow_straight (ok_F (scOk_of hc.1) hb) o d 8 (lk0 o d) f l h ⟨0, by decide, by
   show applyS idM o = _
   rw [apply_id]; obtain ⟨x, y, z⟩ := o; unfold vadd vmul; simp only; refine V3.mk_eq ?_ ?_ ?_ <;> grind⟩ (turn_id d) (by show detS idM ≠ 0; decide +kernel)
  refine ⟨g.1, g.2.1, g.2.2.1, by have h4 := g.2.2.2; have : (lk0 o d).hops.length = 0 := rfl; omega, ?_⟩
  refine dot_pos fun e => ?_
  subst e
  rw [followS] at h
  have hn : (fcsOf s bin.toNat).near (lk0 o v0).p (lk0 o v0).dir = none := by
   cases hh : (fcsOf s bin.toNat).near (lk0 o v0).p (lk0 o v0).dir with
   | none => rfl
   | some x =>
    obtain ⟨g, t⟩ := x
    obtain ⟨_, m, h1, _⟩ := (near_F s _).some _ _ _ _ hh
    have h1 := (hit_raw.1 h1).1
    rw [show (lk0 o v0).dir = v0 from rfl, raw_zero] at h1
    cases h1
  rw [hn] at h
  cases h
 ·cases h
end Go.K
end
section
namespace Go.K
open Go
structure Straight (s : ScL) (o d : VL) (bin : Int) (f : Nat) (l : Lk) : Prop where
 again : followR s (vv o) (vmul 3 (vv d)) bin = some (f, scaleL 3 l)
 far : ∃ t : Rat, 0 < t ∧ vsub (applyS l.map l.p) (vv o) = vmul t (vv d)
 turn : turnS l.map l.dir = vv d
 det : detS l.map ≠ 0
 hops : l.hops.length ≤ 8
 nz : 0 < vdot (vv d) (vv d)
theorem straight_of {s : ScL} {o d : VL} {bin : Int} {f : Nat} {l : Lk} (h : followR s (vv o) (vv d) bin = some (f, l)) : Straight s o d bin f l := by
 obtain ⟨⟨t, ht, h1⟩, h2, h3, h4, h5⟩ := followR_straight h
 refine ⟨by rw [followR_scale s (vv o) (vv d) bin (c := 3) (by decide), h]; rfl, ⟨t, ht, ?_⟩, h2, h3, h4, h5⟩
 rw [h1]
 unfold vsub vadd vmul
 simp only
 refine V3.mk_eq ?_ ?_ ?_ <;> grind
theorem cross_self (t : Rat) (d : V3) : vcross (vmul t d) d = v0 := by
 unfold vcross vmul v0; simp only; refine V3.mk_eq ?_ ?_ ?_ <;> grind
theorem dot_smul (t : Rat) (d : V3) : vdot (vmul t d) d = t * vdot d d := by
 unfold vdot vmul; simp only; grind
end Go.K
namespace Go.K.S
open Go Go.K
theorem chainStraight_good (s : ScL) (x : VL × VL) (bin : Int) (hs : Scn 1048576 s) (hx : Vn 1048576 x.1 ∧ Vn 1048576 x.2) (hb : -9223372036854775808 ≤ bin ∧ bin ≤ 9223372036854775807) :
  Good P F.penumbralaw15_ChainStraight [.d (.agg (dSc Ψ (matsD s.mats) (facesD s.faces) s)), .d (.agg (dV Ψ x.1 ++ dV Ψ x.2)), .d (.i .i64 bin)] [] (.d (.b true)) [] := by
 refine G.penumbralaw15_ChainStraight fun C C2 hC hC2 => ?_
 obtain ⟨o, d⟩ := x
 obtain ⟨ho, hd⟩ := hx
 simp only at ho hd ⊢
 have hD := scD_of s
 obtain ⟨K, hK⟩ : ∃ K, K = 1048576 := ⟨_, rfl⟩
 rw [← hK] at hs ho hd
 obtain ⟨p0, hp0⟩ : ∃ p, p = 3 * K := ⟨_, rfl⟩
 obtain ⟨gr, hgr⟩ : ∃ g, g = 2 * p0 + 20010 := ⟨_, rfl⟩
 have co : Cn p0 (vv o) := by rw [hp0]; exact Cn.of (Pn_vv ho (by omega))
 have cd : Cn p0 (vv d) := by rw [hp0]; exact Cn.of (Pn_vv hd (by omega))
 have q3 : Qn 1 (3 : Rat) := Qn_int (n := 3) (by omega)
 have cd3 : Cn (p0 + 1) (vv (Ψ .cV (vmul 3 (vv d)))) := by rw [vv_cV]; exact (Cn.smul (Cs.of q3) cd).mono (by omega)
 have hm : mvB p0 gr 8 < 260000000 := by simp only [mvB]; omega
 have hm7 : mvB p0 gr 7 < 260000000 := Nat.lt_of_le_of_lt (mvB_8 _ _ 7 (by omega)) hm
 have g1 := follow_good s hD hs (by omega) (by omega) o d (K := K) (p0 := p0) (e0 := p0) (gr := gr) (by omega) ho hd (by omega) co cd bin (by omega) (by omega)
 have d3 : Vn (p0 + 2) (Ψ .cV (vmul 3 (vv d))) := Vn_cV (by have := cd3.size; rw [vv_cV] at this; exact this)
 have g2 := follow_good s hD hs (by omega) (by omega) o (Ψ .cV (vmul 3 (vv d))) (K := p0 + 2) (p0 := p0) (e0 := p0 + 1) (gr := gr) (by omega) (ho.mono (by omega)) d3 (by omega) co cd3 bin (by omega) (by omega)
 have g4 := fixed15_good
 cases hf : followR s (vv o) (vv d) bin with
 | none =>
  rw [hf] at g1
  simp only [lkD, Option.isSome_none] at g1
  clear g2
  unfold dLk at g1
  generalize matsD s.mats = MD at *
  generalize facesD s.faces = FD at *
  first | exact rq (Q := True) trivial | (refine rq ?_; rfl)
 | some y =>
  obtain ⟨f, l⟩ := y
  have S := straight_of hf
  rw [hf] at g1
  rw [vv_cV, S.again] at g2
  have hE := followR_n (p0 := p0) (e0 := p0) (G := gr) (by omega) co cd hf
  simp only [lkD, Option.isSome_some] at g1 g2
  obtain ⟨t, ht, hfar⟩ := S.far
  obtain ⟨N, hN⟩ : ∃ N, N = 260000000 := ⟨_, rfl⟩
  have nL := hE.n (k := N) f (by omega) (by omega) (by omega)
  have nM : Mpn N (cMap Ψ l.map) := nL.m
  have nP : Vn N (Ψ .cV l.p) := nL.p
  have nD : Vn N (Ψ .cV l.dir) := nL.d
  have ga := apply_good (cMap Ψ l.map) (Ψ .cV l.p) nM nP (by omega) (by omega)
  rw [mv_cMap, vv_cV] at ga
  have ca : Cn (2 * N) (applyS l.map l.p) := ((hE.m.turn hE.p).add hE.v).mono (by omega)
  have gsub := vsub_good (Ψ .cV (applyS l.map l.p)) o (k := 2 * N + 1) (Vn_cV ca.size) (ho.mono (by omega)) (by omega) (by omega)
  rw [vv_cV, hfar] at gsub
  have cf : Cn (3 * N) (vmul t (vv d)) := by rw [← hfar]; exact (ca.sub co).mono (by omega)
  have gcr := vcross_good (Ψ .cV (vmul t (vv d))) d (k := 3 * N + 1) (Vn_cV cf.size) (hd.mono (by omega)) (by omega) (by omega)
  rw [vv_cV, cross_self] at gcr
  have gz := zero5_good
  have z0 : Vn 1 (Ψ .cV v0) := Vn_cV ((Cn.zero (k := 0)).size)
  have i1 := is5_good _ _ z0 z0 (by omega) (by omega)
  have gdt := vdot_good (Ψ .cV (vmul t (vv d))) d (k := 3 * N + 1) (Vn_cV cf.size) (hd.mono (by omega)) (by omega) (by omega)
  rw [vv_cV, dot_smul] at gdt
  have pt := Rat.mul_pos ht S.nz
  have cdt : Cs (4 * N) (t * vdot (vv d) (vv d)) := by rw [← dot_smul]; exact (cf.dot cd).mono (by omega)
  have gs1 := sign_good (Ψ .cr (t * vdot (vv d) (vv d))) (Rn_cr.2 cdt.size) (by omega)
  rw [rv_cr] at gs1
  have qs1 := @qs_pos (t * vdot (vv d) (vv d))
  rw [decide_eq_true pt] at qs1
  have gt := turn_good (cMap Ψ l.map) (Ψ .cV l.dir) nM nD (by omega) (by omega)
  rw [mv_cMap, vv_cV, S.turn] at gt
  have grd := vread_good d hd (by omega)
  have nd : Vn (p0 + 1) (Ψ .cV (vv d)) := Vn_cV cd.size
  have i2 := is5_good _ _ nd nd (by omega) (by omega)
  have gdet := det_good (cMap Ψ l.map) nM (by omega) (by omega)
  rw [mv_cMap] at gdet
  have cdet : Cs N (detS l.map) := ((hE.m.x).dot ((hE.m.y).cross hE.m.z)).mono (by omega)
  have gs2 := sign_good (Ψ .cr (detS l.map)) (Rn_cr.2 cdet.size) (by omega)
  rw [rv_cr] at gs2
  have qs2 := @qs_zero (detS l.map)
  rw [decide_eq_false S.det] at qs2
  have hl := oD_ok.len l.hops
  have q8 : Ω .lt 8 (Ω .ci (Ω .slen (oD l.hops))) = false := by rw [hl]; simp only [wz]; have := S.hops; omega
  have gof := rof_good 3 1 (by omega) (by omega) (by omega) (by omega)
  have e3 : ((3 : Int) : Rat) / ((1 : Int) : Rat) = 3 := by decide +kernel
  rw [e3] at gof
  have n3 : Rn 1 (Ψ .cr 3) := Rn_cr.2 q3
  have gsc := vscale_good (Ψ .cr 3) d (k := K) (n3.mono (by omega)) hd (by omega) (by omega)
  rw [rv_cr] at gsc
  have gsd := vscale_good (Ψ .cr 3) (Ψ .cV l.dir) (k := N) (n3.mono (by omega)) nD (by omega) (by omega)
  rw [rv_cr, vv_cV] at gsd
  have c3d : Cn N (vmul 3 l.dir) := (Cn.smul (Cs.of q3) hE.d).mono (by omega)
  have i3 := is5_good _ _ nP nP (by omega) (by omega)
  have i4 := ints_good l.hops l.hops (by have := S.hops; omega) (by have := S.hops; omega)
  have i5 := is7_good _ _ nM nM (by omega) (by omega)
  have i6 := is5_good _ _ (Vn_cV c3d.size) (Vn_cV c3d.size) (by omega) (by omega)
  rw [decide_eq_true rfl] at i1 i2 i3 i4 i5 i6
  have e1 : (scaleL 3 l).p = l.p := rfl
  have e2 : (scaleL 3 l).hops = l.hops := rfl
  have e4 : (scaleL 3 l).map = l.map := rfl
  have e5 : (scaleL 3 l).gain = l.gain := rfl
  have e6 : (scaleL 3 l).dir = vmul 3 l.dir := rfl
  rw [e1, e2, e4, e5, e6] at g2
  have qf : Ω .eq (Ω .ci f) (Ω .ci f) = true := eq_true'.2 rfl
  unfold dLk at g1 g2
  clear hE S hfar ca cf pt cdt cdet c3d hl e1 e2 e4 e5 e6 e3 hf nL nM nP nD n3 nd z0 d3 cd3 co cd q3 hm hm7 hs hD ho hd
  generalize matsD s.mats = MD at *
  generalize facesD s.faces = FD at *
  generalize oD l.hops = HD at *
  generalize Ψ .cV (applyS l.map l.p) = AP at *
  generalize Ψ .cV (vmul t (vv d)) = FAR at *
  generalize Ψ .cr (t * vdot (vv d) (vv d)) = DT at *
  generalize Ψ .sI (t * vdot (vv d) (vv d)) = SG at *
  generalize Ψ .cr (detS l.map) = DET at *
  generalize Ψ .sI (detS l.map) = SD at *
  generalize Ψ .cV (vmul 3 (vv d)) = D3 at *
  generalize Ψ .cV (vmul 3 l.dir) = L3 at *
  generalize Ψ .cV l.p = LP at *
  generalize Ψ .cV l.dir = LD at *
  generalize cMap Ψ l.map = LM at *
  generalize Ψ .cr l.gain = LG at *
  generalize Ψ .cV (vv d) = VD at *
  generalize Ψ .cV v0 = ZV at *
  generalize Ψ .cr 3 = R3 at *
  generalize Ω .ci f = fi at *
  first | exact rq (Q := True) trivial | (refine rq ?_; trace_state; rfl)
end Go.K.S
end
