/-
  Parts of the proof, joined by a program of this work: KOn, KLawChainEnds.
-/
import Derived.Test.YtjoimiljaljgcaaGreatMbo
import Derived.Test.YtjoimiljaljgcaaGreatMbp
set_option linter.unusedSimpArgs false
set_option linter.unusedVariables false
set_option maxHeartbeats 16000000
set_option maxRecDepth 20000
section
namespace Go.K
open Go
def inT (p : V3) (t : T3) : Prop := normS t ≠ v0 ∧ ∃ u v : Rat, (0 ≤ u ∧ 0 ≤ v ∧ u + v ≤ 1) ∧ vsub p t.a = vadd (vmul u (vsub t.b t.a)) (vmul v (vsub t.c t.a))
def onS (p : V3) (t : T3) : Bool := decide (vdot (normS t) (vsub p t.a) = 0) && hitOk (vadd p (normS t)) (vsub v0 (normS t)) t
theorem raw_pt {o d : V3} {t : T3} {m : M3} (h : rawS o d t = some m) : vsub (vadd o (vmul m.s d)) t.a = vadd (vmul m.u (vsub t.b t.a)) (vmul m.v (vsub t.c t.a)) := by
 unfold rawS at h
 split at h
 ·cases h
 ·rename_i h0
  cases h
  have hf : ∀ s, vsub (vadd o (vmul s d)) t.a = vadd (vsub o t.a) (vmul s d) := fun s => by
   unfold vsub vadd vmul; simp only; refine V3.mk_eq ?_ ?_ ?_ <;> grind
  rw [hf]
  simp only
  generalize vsub t.b t.a = b at *
  generalize vsub t.c t.a = c at *
  generalize vsub o t.a = f at *
  have hk : 1 / vdot b (vcross d c) * vdot b (vcross d c) = 1 := by grind
  generalize 1 / vdot b (vcross d c) = k at *
  obtain ⟨b1, b2, b3⟩ := b
  obtain ⟨c1, c2, c3⟩ := c
  obtain ⟨d1, d2, d3⟩ := d
  obtain ⟨f1, f2, f3⟩ := f
  unfold vdot vcross at *
  unfold vadd vmul
  simp only at *
  refine V3.mk_eq ?_ ?_ ?_ <;> grind
theorem raw_in {p d : V3} {t : T3} {u v : Rat} (hp : vsub p t.a = vadd (vmul u (vsub t.b t.a)) (vmul v (vsub t.c t.a))) (hd : vdot (vsub t.b t.a) (vcross d (vsub t.c t.a)) ≠ 0) : rawS p d t = some ⟨0, u, v⟩ := by
 unfold rawS
 rw [hp, if_neg hd]
 generalize vsub t.b t.a = b at *
 generalize vsub t.c t.a = c at *
 have hk : 1 / vdot b (vcross d c) * vdot b (vcross d c) = 1 := by grind
 generalize 1 / vdot b (vcross d c) = k at *
 obtain ⟨b1, b2, b3⟩ := b
 obtain ⟨c1, c2, c3⟩ := c
 obtain ⟨d1, d2, d3⟩ := d
 simp only [Option.some.injEq, M3.mk.injEq]
 unfold vdot vcross vadd vmul at *
 simp only at *
 refine ⟨?_, ?_, ?_⟩ <;> grind
theorem det_norm (t : T3) (d : V3) : vdot (vsub t.b t.a) (vcross d (vsub t.c t.a)) = - vdot (normS t) d := by
 unfold normS; rw [det_dot]
 generalize vcross (vsub t.b t.a) (vsub t.c t.a) = n
 unfold vdot; grind
theorem sq_pos {d : V3} (h : d ≠ v0) : vdot d d ≠ 0 := by
 have hs : ∀ x : Rat, 0 ≤ x * x := fun x => by
  rcases (@Rat.le_total 0 x) with h | h
  ·exact Rat.mul_nonneg h h
  ·have := Rat.mul_nonneg (show 0 ≤ -x by grind) (show 0 ≤ -x by grind); grind
 obtain ⟨x, y, z⟩ := d
 have h1 := hs x
 have h2 := hs y
 have h3 := hs z
 show x * x + y * y + z * z ≠ 0
 intro hle
 refine h ?_
 have z1 : x * x = 0 := by grind
 have z2 : y * y = 0 := by grind
 have z3 : z * z = 0 := by grind
 have e : ∀ x : Rat, x * x = 0 → x = 0 := fun x h => by rcases Rat.mul_eq_zero.1 h with h | h <;> exact h
 rw [e x z1, e y z2, e z z3]
 rfl
theorem norm_in {p : V3} {t : T3} {u v : Rat} (hp : vsub p t.a = vadd (vmul u (vsub t.b t.a)) (vmul v (vsub t.c t.a))) : vdot (normS t) (vsub p t.a) = 0 := by
 rw [hp]
 unfold normS
 generalize vsub t.b t.a = b
 generalize vsub t.c t.a = c
 unfold vdot vcross vadd vmul; simp only; grind
theorem onS_iff (p : V3) (t : T3) : onS p t = true ↔ inT p t := by
 have ev : vsub v0 (normS t) = vmul (-1) (normS t) := by unfold vsub vmul v0; simp only; refine V3.mk_eq ?_ ?_ ?_ <;> grind
 have ea : vadd p (normS t) = vadd p (vmul 1 (normS t)) := by unfold vadd vmul; simp only; refine V3.mk_eq ?_ ?_ ?_ <;> grind
 unfold onS
 rw [ev, ea]
 constructor
 ·intro h
  simp only [Bool.and_eq_true, decide_eq_true_eq] at h
  obtain ⟨h1, h2⟩ := h
  unfold hitOk at h2
  obtain ⟨m, hm⟩ := Option.isSome_iff_exists.1 h2
  obtain ⟨r1, r2, r3⟩ := hit_raw.1 hm
  rw [raw_rev] at r1
  cases hr : rawS p (normS t) t with
  | none => rw [hr] at r1; cases r1
  | some m0 =>
   rw [hr] at r1
   cases r1
   have hp := raw_pt hr
   have hn : normS t ≠ v0 := fun e => by
    unfold rawS at hr
    rw [det_norm, e] at hr
    rw [if_pos (by decide +kernel)] at hr
    cases hr
   have hq := sq_pos hn
   have hz := norm_in hp
   have e2 : vsub (vadd p (vmul m0.s (normS t))) t.a = vadd (vsub p t.a) (vmul m0.s (normS t)) := by unfold vsub vadd vmul; simp only; refine V3.mk_eq ?_ ?_ ?_ <;> grind
   have hs : m0.s = 0 := by
    rw [e2] at hz
    have e3 : vdot (normS t) (vadd (vsub p t.a) (vmul m0.s (normS t))) = vdot (normS t) (vsub p t.a) + m0.s * vdot (normS t) (normS t) := by unfold vdot vadd vmul; simp only; grind
    rw [e3, h1] at hz
    rcases Rat.mul_eq_zero.1 (show m0.s * vdot (normS t) (normS t) = 0 by grind) with h | h
    ·exact h
    ·exact absurd h hq
   refine ⟨hn, m0.u, m0.v, r3, ?_⟩
   rw [← hp, e2, hs]
   unfold vsub vadd vmul; simp only; refine V3.mk_eq ?_ ?_ ?_ <;> grind
 ·rintro ⟨hn, u, v, hi, hp⟩
  have hd : vdot (vsub t.b t.a) (vcross (normS t) (vsub t.c t.a)) ≠ 0 := by
   rw [det_norm]
   have := sq_pos hn
   grind
  have hr := raw_in hp hd
  simp only [Bool.and_eq_true, decide_eq_true_eq]
  refine ⟨norm_in hp, ?_⟩
  have : hitS (vadd p (vmul 1 (normS t))) (vmul (-1) (normS t)) t = some ⟨1 - 0, u, v⟩ := hit_raw.2 ⟨by rw [raw_rev, hr]; rfl, by show (0 : Rat) < 1 - 0; decide +kernel, hi⟩
  unfold hitOk
  rw [this]
  rfl
theorem inT_raw {o d : V3} {t : T3} {m : M3} (h : rawS o d t = some m) (hi : inS m) : inT (vadd o (vmul m.s d)) t ∧ vdot (normS t) d ≠ 0 := by
 have hd : vdot (normS t) d ≠ 0 := fun e => by
  unfold rawS at h
  rw [det_norm, e] at h
  rw [if_pos (by decide +kernel)] at h
  cases h
 refine ⟨⟨fun e => hd ?_, m.u, m.v, hi, raw_pt h⟩, hd⟩
 rw [e]
 unfold vdot v0
 simp only
 grind
theorem raw_inT {p d : V3} {t : T3} (h : inT p t) (hd : vdot (normS t) d ≠ 0) : ∃ m, rawS p d t = some m ∧ m.s = 0 ∧ inS m := by
 obtain ⟨hn, u, v, hi, hp⟩ := h
 refine ⟨⟨0, u, v⟩, raw_in hp ?_, rfl, hi⟩
 rw [det_norm]
 grind
end Go.K
namespace Go.K.S
open Go Go.K
theorem on15_good (p : VL) (t : TL) {k : Nat} (cp : Cn k (vv p)) (hp : Vn (k + 1) p) (ht : Tn 2 t) (hk : k < 67000000) :
  Good P F.penumbraref15_On [.d (.agg (dV Ψ p)), .d (.agg (dT Ψ t))] [] (.d (.b (onS (vv p) (tv t)))) [] := by
 refine G.penumbraref15_On fun C C2 hC hC2 => ?_
 have gn := normal8_good t ht (by omega) (by omega)
 have en : vcross (vsub (vv t.b) (vv t.a)) (vsub (vv t.c) (vv t.a)) = normS (tv t) := rfl
 rw [en] at gn
 have pn : Pn 21 (normS (tv t)) := Pn_norm (T3n ht (by omega)) (by omega)
 have cn := Cn.of pn
 have vn : Vn 21 (Ψ .cV (normS (tv t))) := Vn_cV pn
 have gs := sub5_good p t.a hp ht.a (by omega) (by omega) (by omega)
 have ca : Cn 6 (vv t.a) := Cn.of (Pn_vv ht.a (by omega))
 have cs := cp.sub ca
 have vs : Vn (k + 8) (Ψ .cV (vsub (vv p) (vv t.a))) := Vn_cV (cs.size.mono (by omega))
 have gd := dot5_good (Ψ .cV (normS (tv t))) (Ψ .cV (vsub (vv p) (vv t.a))) vn vs (by omega) (by omega) (by omega) (by omega)
 rw [vv_cV, vv_cV] at gd
 have qd : Cs (k + 100) (vdot (normS (tv t)) (vsub (vv p) (vv t.a))) := (cn.dot cs).mono (by omega)
 have gsg := sign3_good (Ψ .cr (vdot (normS (tv t)) (vsub (vv p) (vv t.a)))) (Rn_cr.2 qd.size) (by omega)
 rw [rv_cr] at gsg
 have ga := add5_good p (Ψ .cV (normS (tv t))) (k := k + 100) (hp.mono (by omega)) (vn.mono (by omega)) (by omega)
 rw [vv_cV] at ga
 have gz := zero5_good
 have z0 : Vn 1 (Ψ .cV v0) := Vn_cV ((Cn.zero (k := 0)).size)
 have gz2 := sub5_good (Ψ .cV v0) (Ψ .cV (normS (tv t))) z0 vn (by omega) (by omega) (by omega)
 rw [vv_cV, vv_cV] at gz2
 have c1 : Cn (k + 100) (vadd (vv p) (normS (tv t))) := (cp.add cn).mono (by omega)
 have c2 : Cn (k + 100) (vsub v0 (normS (tv t))) := ((Cn.zero (k := 0)).sub cn).mono (by omega)
 have gh := hit8_good (Ψ .cV (vadd (vv p) (normS (tv t)))) (Ψ .cV (vsub v0 (normS (tv t)))) t (k := k + 101) (Vn_cV c1.size) (Vn_cV c2.size) (ht.mono (by omega)) (by omega) (by omega)
 rw [vv_cV, vv_cV] at gh
 have qz := @qs_zero (vdot (normS (tv t)) (vsub (vv p) (vv t.a)))
 have qn : Ω .ne (Ψ .sI (vdot (normS (tv t)) (vsub (vv p) (vv t.a)))) 0 = !decide (vdot (normS (tv t)) (vsub (vv p) (vv t.a)) = 0) := by
  rw [← qz]
  by_cases h : Ψ .sI (vdot (normS (tv t)) (vsub (vv p) (vv t.a))) = 0
  ·rw [ne_false'.2 h, eq_true'.2 h]; rfl
  ·rw [ne_true'.2 h, eq_false'.2 h]; rfl
 unfold onS
 have et : (tv t).a = vv t.a := rfl
 rw [et]
 clear et qz pn cn vn cs vs qd c1 c2 z0 cp ca en hp ht hk
 generalize decide (vdot (normS (tv t)) (vsub (vv p) (vv t.a)) = 0) = dz at *
 generalize hitOk (vadd (vv p) (normS (tv t))) (vsub v0 (normS (tv t))) (tv t) = ok at *
 generalize Ψ .sI (vdot (normS (tv t)) (vsub (vv p) (vv t.a))) = sg at *
 generalize Ψ .cr (vdot (normS (tv t)) (vsub (vv p) (vv t.a))) = DT at *
 generalize hitM (vadd (vv p) (normS (tv t))) (vsub v0 (normS (tv t))) (tv t) = M at *
 generalize Ψ .cV (vadd (vv p) (normS (tv t))) = PA at *
 generalize Ψ .cV (vsub v0 (normS (tv t))) = PS at *
 generalize Ψ .cV (vsub (vv p) (vv t.a)) = PD at *
 generalize Ψ .cV (normS (tv t)) = N at *
 generalize Ψ .cV v0 = Z at *
 cases dz
 ·rw [Bool.not_false] at qn
  exact rq trivial
 ·rw [Bool.not_true] at qn
  exact rq trivial
end Go.K.S
end
section
namespace Go.K
open Go
def gainS (F : Fcs) (l : List Nat) : Rat := l.foldl (fun g f => g * F.val f) 1
theorem gainS_snoc (F : Fcs) (l : List Nat) (f : Nat) : gainS F (l ++ [f]) = gainS F l * F.val f := by unfold gainS; rw [List.foldl_append]; rfl
structure EndS (s : ScL) (bin f : Nat) (l : Lk) : Prop where
 hops : ∀ g, g ∈ l.hops → g < s.faces.length ∧ ∃ m, matF s g = some m ∧ (m.kind = 1 ∨ m.kind = 2)
 gain : l.gain = gainS (fcsOf s bin) l.hops
 face : f < s.faces.length
 mat : ∃ m, matF s f = some m ∧ m.kind ≠ 1 ∧ m.kind ≠ 2
 on : inT l.p (triF s f)
 dir : vdot (normS (triF s f)) l.dir ≠ 0
theorem follow_ends {s : ScL} (ok : ScOk s) {bin : Nat} : ∀ (n : Nat) (l : Lk) (f : Nat) (l' : Lk), followS (fcsOf s bin) n l = some (f, l') →
  (∀ g, g ∈ l.hops → g < s.faces.length ∧ ∃ m, matF s g = some m ∧ (m.kind = 1 ∨ m.kind = 2)) → l.gain = gainS (fcsOf s bin) l.hops → EndS s bin f l'
 | n, l, f, l', h, hh, hg => by
  rw [followS] at h
  cases hn : (fcsOf s bin).near l.p l.dir with
  | none => rw [hn] at h; cases h
  | some x =>
   obtain ⟨g, t⟩ := x
   rw [hn] at h
   simp only at h
   obtain ⟨hf, mm, h1, h2, _⟩ := (near_F s bin).some _ _ _ _ hn
   obtain ⟨fc, m, m1, m2, m3, m4⟩ := matF_some ok hf
   obtain ⟨r1, r2, r3⟩ := hit_raw.1 h1
   have hbd : (fcsOf s bin).bend g l.dir = bendM s.waves m bin (decide (vdot l.dir (unitF s g) < 0)) := by
    show (match matF s g with | some m => bendM s.waves m bin (decide (vdot l.dir (unitF s g) < 0)) | none => none) = _
    rw [m4]
   rw [hbd] at h
   unfold bendM at h
   by_cases k1 : m.kind = 1
   ·rw [if_pos k1] at h
    simp only at h
    cases n with
    | zero => cases h
    | succ n =>
     simp only at h
     refine follow_ends ok n _ f l' h (fun j hj => ?_) ?_
     ·rcases List.mem_append.1 hj with hj | hj
      ·exact hh j hj
      ·obtain rfl := List.mem_singleton.1 hj
       exact ⟨hf, m, m4, .inl k1⟩
     ·show l.gain * (fcsOf s bin).val g = gainS (fcsOf s bin) (l.hops ++ [g])
      rw [gainS_snoc, hg]
   ·rw [if_neg k1] at h
    by_cases k2 : m.kind = 2
    ·rw [if_pos k2] at h
     simp only at h
     cases n with
     | zero => cases h
     | succ n =>
      simp only at h
      refine follow_ends ok n _ f l' h (fun j hj => ?_) ?_
      ·rcases List.mem_append.1 hj with hj | hj
       ·exact hh j hj
       ·obtain rfl := List.mem_singleton.1 hj
        exact ⟨hf, m, m4, .inr k2⟩
      ·show l.gain * (fcsOf s bin).val g = gainS (fcsOf s bin) (l.hops ++ [g])
       rw [gainS_snoc, hg]
    ·rw [if_neg k2] at h
     simp only at h
     cases h
     have ho := inT_raw r1 r3
     rw [h2] at ho
     exact ⟨hh, hg, hf, ⟨m, m4, k1, k2⟩, ho.1, ho.2⟩
theorem gainS_n {s : ScL} (ok : ScOk s) (bin : Nat) : ∀ (l : List Nat), Qn (2 * l.length + 1) (gainS (fcsOf s bin) l.reverse)
 | [] => Qn_one (by omega)
 | f :: l => by
  rw [List.reverse_cons, gainS_snoc]
  have h1 := gainS_n ok bin l
  have h2 := (n_F ok bin).val f
  exact (Qn_mul h1 h2 (by omega)).mono (by simp only [List.length_cons]; omega)
end Go.K
namespace Go.K.S
open Go Go.K
theorem chainEnds_good (s : ScL) (x : VL × VL) (bin : Int) (hs : Scn 1048576 s) (hx : Vn 1048576 x.1 ∧ Vn 1048576 x.2) (hb : -9223372036854775808 ≤ bin ∧ bin ≤ 9223372036854775807) :
  Good P F.penumbralaw15_ChainEnds [.d (.agg (dSc Ψ (matsD s.mats) (facesD s.faces) s)), .d (.agg (dV Ψ x.1 ++ dV Ψ x.2)), .d (.i .i64 bin)] [] (.d (.b true)) [] := by
 refine G.penumbralaw15_ChainEnds fun C C2 hC hC2 => ?_
 obtain ⟨o, d⟩ := x
 obtain ⟨ho, hd⟩ := hx
 simp only at ho hd ⊢
 have hD := scD_of s
 obtain ⟨K, hK⟩ : ∃ K, K = 1048576 := ⟨_, rfl⟩
 rw [← hK] at hs ho hd
 obtain ⟨p0, hp0⟩ : ∃ p, p = 3 * K := ⟨_, rfl⟩
 obtain ⟨gr, hgr⟩ : ∃ g, g = 2 * p0 + 20000 := ⟨_, rfl⟩
 have co : Cn p0 (vv o) := by rw [hp0]; exact Cn.of (Pn_vv ho (by omega))
 have cd : Cn p0 (vv d) := by rw [hp0]; exact Cn.of (Pn_vv hd (by omega))
 have hm : mvB p0 gr 8 < 260000000 := by simp only [mvB]; omega
 have hm7 : mvB p0 gr 7 < 260000000 := Nat.lt_of_le_of_lt (mvB_8 _ _ 7 (by omega)) hm
 have g1 := follow_good s hD hs (by omega) (by omega) o d (K := K) (p0 := p0) (e0 := p0) (gr := gr) (by omega) ho hd (by omega) co cd bin (by omega) (by omega)
 have gck := check9_good s hD hs (by omega) (by omega)
 have g4 := fixed15_good
 cases hR : followR s (vv o) (vv d) bin with
 | none =>
  rw [hR] at g1
  simp only [lkD, Option.isSome_none] at g1
  unfold dLk at g1
  clear hD hR gck
  generalize matsD s.mats = MD at *
  generalize facesD s.faces = FD at *
  first | exact rq (Q := True) trivial | (refine rq ?_; rfl)
 | some y =>
 obtain ⟨f, l⟩ := y
 have hR2 := hR
 unfold followR at hR2
 split at hR2
 rotate_left
 ·cases hR2
 rename_i hc3
 obtain ⟨hc, h0, h1⟩ := hc3
 have ok := scOk_of hc
 obtain ⟨bn, rfl⟩ : ∃ bn, bin = Ω .ci bn := ⟨bin.toNat, by rw [w_ci]; omega⟩
 have hbn : (Ω .ci bn).toNat = bn := by rw [w_ci]; omega
 have hbl : bn < s.waves.length := by rw [w_ci] at h1; omega
 rw [hbn] at hR2
 have E := follow_ends ok 8 _ f l hR2 (fun g hg => by cases hg) rfl
 have hE := followR_n (p0 := p0) (e0 := p0) (G := gr) (by omega) co cd hR
 rw [hR] at g1
 rw [hc] at gck
 have qc : Ω .ne 0 0 = false := rfl
 have q1 : Ω .lt (Ω .ci bn) 0 = false := lt_false.2 h0
 have q2 : Ω .le (Ω .ci s.waves.length) (Ω .ci bn) = false := le_false.2 (by rw [w_ci, w_ci]; omega)
 have hfl := hD.fl
 have hfc := ok.f2
 have q3 : ∀ j : Nat, Ω .lt (Ω .ci j) 0 = false := fun j => lt_false.2 (by rw [w_ci]; omega)
 have q4 : ∀ j, j < s.faces.length → Ω .le (Ω .ci (Ω .slen (facesD s.faces))) (Ω .ci j) = false := fun j hj => le_false.2 (by rw [hfl, w_ci, w_ci]; omega)
 have q4f := q4 f E.face
 have q3f := q3 f
 obtain ⟨fc, m, m1, m2, m3, m4⟩ := matF_some ok E.face
 have gmf := mat15_good s hD m1 m2 m3
 obtain ⟨m', e1, k1, k2⟩ := E.mat
 rw [m4] at e1
 cases e1
 have hmb := ok.mb m (List.mem_of_getElem? m2)
 have hkind : m.kind = 0 ∨ m.kind = 3 := by
  unfold matB at hmb
  simp only [Bool.and_eq_true, decide_eq_true_eq] at hmb
  have := hmb.1.1
  omega
 have x1 := hD.f f fc m1
 have htf := ok.n.fv fc (List.mem_of_getElem? m1)
 have et : triF s f = tv fc.tri := by unfold triF; rw [m1]
 have hon := E.on
 have hdir := E.dir
 rw [et] at hon hdir
 obtain ⟨N, hN⟩ : ∃ N, N = 66000000 := ⟨_, rfl⟩
 have np : Vn (N + 1) (Ψ .cV l.p) := Vn_cV ((hE.p.mono (by omega)).size)
 have gon := on15_good (Ψ .cV l.p) fc.tri (k := N) (by rw [vv_cV]; exact hE.p.mono (by omega)) np htf (by omega)
 rw [vv_cV, (onS_iff _ _).2 hon] at gon
 have gn := normal8_good fc.tri htf (by omega) (by omega)
 have en : vcross (vsub (vv fc.tri.b) (vv fc.tri.a)) (vsub (vv fc.tri.c) (vv fc.tri.a)) = normS (tv fc.tri) := rfl
 rw [en] at gn
 have pn : Pn 21 (normS (tv fc.tri)) := Pn_norm (T3n htf (by omega)) (by omega)
 have nd : Vn (N + 1) (Ψ .cV l.dir) := Vn_cV ((hE.d.mono (by omega)).size)
 have gd := dot5_good (Ψ .cV (normS (tv fc.tri))) (Ψ .cV l.dir) (Vn_cV pn) nd (by omega) (by omega) (by omega) (by omega)
 rw [vv_cV, vv_cV] at gd
 have qd : Cs (N + 100) (vdot (normS (tv fc.tri)) l.dir) := ((Cn.of pn).dot (hE.d.mono (show p0 + 7440 ≤ N by omega))).mono (by omega)
 have gsg := sign3_good (Ψ .cr (vdot (normS (tv fc.tri)) l.dir)) (Rn_cr.2 qd.size) (by omega)
 rw [rv_cr] at gsg
 have qn : Ω .ne (Ψ .sI (vdot (normS (tv fc.tri)) l.dir)) 0 = true := ne_true'.2 (fun e => hdir (sI_zero.1 e))
 have go := one3_good
 have eg : Ψ .cr 1 = Ψ .cr (gainS (fcsOf s bn) (l.hops.take 0)) := rfl
 rw [eg] at go
 have hgn : ∀ i, Qn 250 (gainS (fcsOf s bn) (l.hops.take i)) := fun i => by
  have h := gainS_n ok bn (l.hops.take i).reverse
  rw [List.reverse_reverse, List.length_reverse, List.length_take] at h
  have := hE.h
  exact h.mono (by omega)
 have ge : l.gain = gainS (fcsOf s bn) (l.hops.take l.hops.length) := by rw [List.take_length]; exact E.gain
 have gis := is3_good (Ψ .cr l.gain) (Ψ .cr l.gain) (Rn_cr.2 hE.g) (Rn_cr.2 hE.g) (by omega) (by omega)
 rw [decide_eq_true rfl] at gis
 have hstep : ∀ i, i < l.hops.length → ∃ g fc m r, l.hops[i]? = some g ∧ Ω .le (Ω .ci (Ω .slen (facesD s.faces))) (Ω .ci g) = false ∧ (m.kind = 1 ∨ m.kind = 2) ∧
   Good P F.penumbraref15_Mat [.d (.agg (dSc Ψ (matsD s.mats) (facesD s.faces) s)), .d (.i .i64 (Ω .ci g))] [] (.d (.agg (dMat Ψ m))) [] ∧
   Ω .sget (Ψ .dRs m.vals) bn = some (.agg (dR Ψ r)) ∧
   Good P F.rat_Product [.d (.sl [.agg (dR Ψ (Ψ .cr (gainS (fcsOf s bn) (l.hops.take i)))), .agg (dR Ψ r)])] [] (.d (.agg (dR Ψ (Ψ .cr (gainS (fcsOf s bn) (l.hops.take (i + 1))))))) [] := fun i hi => by
  obtain ⟨g, hg⟩ : ∃ g, l.hops[i]? = some g := ⟨_, List.getElem?_eq_getElem hi⟩
  obtain ⟨hgf, m', hm', hk'⟩ := E.hops g (List.mem_of_getElem? hg)
  obtain ⟨fc', m2', a1, a2, a3, a4⟩ := matF_some ok hgf
  rw [a4] at hm'
  cases hm'
  have hmm := List.mem_of_getElem? a2
  have hvl : m'.vals.length = s.waves.length := by
   have h := ok.mb m' hmm
   unfold matB at h
   simp only [Bool.and_eq_true, decide_eq_true_eq] at h
   exact h.1.2
  have hr : m'.vals[bn]? = some (m'.vals[bn]'(by omega)) := List.getElem?_eq_getElem (by omega)
  have hrn := (ok.n.mv m' hmm).1 _ (List.mem_of_getElem? hr)
  refine ⟨g, fc', m', _, hg, q4 g hgf, hk', mat15_good s hD a1 a2 a3, hx_dRs hr, ?_⟩
  have gp := prod2_good (Ψ .cr (gainS (fcsOf s bn) (l.hops.take i))) (m'.vals[bn]'(by omega)) (k := 250) (Rn_cr.2 (hgn i)) (hrn.mono (by omega)) (by omega) (by omega)
  rw [rv_cr] at gp
  have e : gainS (fcsOf s bn) (l.hops.take (i + 1)) = gainS (fcsOf s bn) (l.hops.take i) * rv (m'.vals[bn]'(by omega)) := by
   rw [List.take_add_one, hg]
   show gainS (fcsOf s bn) (l.hops.take i ++ [g]) = _
   rw [gainS_snoc]
   congr 1
   show (match matF s g with | some m => (match m.vals[bn]? with | some r => rv r | none => 0) | none => 0) = _
   rw [a4]
   simp only
   rw [hr]
  rw [e]
  exact gp
 have hol := oD_ok.len l.hops
 have hog := oD_ok.get l.hops
 have hh8 := hE.h
 simp only [lkD, Option.isSome_some] at g1
 unfold dLk at g1
 unfold dMat at gmf hstep
 clear E hE hD ok hR hR2 hc q4 hgn eg np nd pn qd hon hdir en m1 m2 m3 m4 htf co cd hm hm7 hmb et
 have hz : Ψ .cr l.gain = Ψ .cr (gainS (fcsOf s bn) (l.hops.take l.hops.length)) := by rw [← ge]
 clear ge
 obtain ⟨GG, hGG⟩ : ∃ G : Nat → RL, G = fun i => Ψ .cr (gainS (fcsOf s bn) (l.hops.take i)) := ⟨_, rfl⟩
 have eG : ∀ i, Ψ .cr (gainS (fcsOf s bn) (l.hops.take i)) = GG i := fun i => by rw [hGG]
 rw [hz] at g1 gis
 simp only [eG] at g1 gis hstep go
 clear eG hGG hz
 generalize oD l.hops = HD at *
 generalize matsD s.mats = MD at *
 generalize facesD s.faces = FD at *
 generalize Ψ .cV l.p = LP at *
 generalize Ψ .cV l.dir = LD at *
 generalize cMap Ψ l.map = LM at *
 generalize Ψ .cV (normS (tv fc.tri)) = NV at *
 generalize Ψ .sI (vdot (normS (tv fc.tri)) l.dir) = SG at *
 generalize Ψ .cr (vdot (normS (tv fc.tri)) l.dir) = DT at *
 generalize l.hops = hops at *
 obtain ⟨ft, fm⟩ := fc
 simp only at gn gon x1
 refine rq ?_
 refine LoopG.intro (σ := Nat) [2, 3, 7, 9, 10, 11] [1050, 1051, 1052]
  (fun i => [.d (.i .i64 (Ω .ci bn)), .ptr 1050 0, .ptr 1051 0, .d (.i .i64 m.kind), .ptr 1052 0, .d (.i .i64 (Ω .ci i))])
  (fun i => [.var ((dSc Ψ MD FD s).map V.d), .var ((dLk Ψ (Ω .ci f) HD LP LD LM (GG hops.length)).map V.d), .var ((dR Ψ (GG i)).map V.d)])
  (fun i => i ≤ hops.length) (fun i => hops.length - i) 0 [1000, 1110, 1901] (Nat.zero_le _) ⟨rfl, rfl, rfl⟩ ?_
 intro i hi
 have hw := wrap_succ (n := i) (by omega)
 rcases Nat.lt_or_ge i hops.length with hlt | hge
 ·obtain ⟨g, fc', m', r, s1, s2, s3, s4, s5, s6⟩ := hstep i hlt
  have s7 := hog i g s1
  have q0 : Ω .lt (Ω .ci i) (Ω .ci (Ω .slen HD)) = true := by rw [hol]; simp only [wz]; omega
  have q3g := q3 g
  clear hstep q3 hog
  rcases s3 with hk | hk
  ·have e1 : Ω .ne m'.kind 1 = false := ne_false'.2 hk
   refine rq ?_
   rw [hw]
   exact ⟨i + 1, [1050, 1051, 1052], hlt, by omega, rfl, rfl, rfl⟩
  ·have e1 : Ω .ne m'.kind 1 = true := ne_true'.2 (by omega)
   have e2 : Ω .ne m'.kind 2 = false := ne_false'.2 hk
   refine rq ?_
   rw [hw]
   exact ⟨i + 1, [1050, 1051, 1052], hlt, by omega, rfl, rfl, rfl⟩
 ·obtain rfl : i = hops.length := by omega
  have q0 : Ω .lt (Ω .ci hops.length) (Ω .ci (Ω .slen HD)) = false := by rw [hol]; simp only [wz]; omega
  clear hstep q3 hog
  rcases hkind with hk | hk
  ·have e1 : Ω .eq m.kind 0 = true := eq_true'.2 hk
   first | exact rq (Q := True) trivial | (refine rq ?_; rfl)
  ·have e1 : Ω .eq m.kind 0 = false := eq_false'.2 (by omega)
   have e2 : Ω .eq m.kind 3 = true := eq_true'.2 hk
   first | exact rq (Q := True) trivial | (refine rq ?_; rfl)
end Go.K.S
end
