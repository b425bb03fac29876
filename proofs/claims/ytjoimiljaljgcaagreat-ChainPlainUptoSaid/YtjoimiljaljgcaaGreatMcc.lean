/-
  The law ChainPlain: it answers true, whatever scene and ray, of bulk at most 1048576 together.
-/
import Derived.Test.YtjoimiljaljgcaaGreatMbp
import Derived.Test.YtjoimiljaljgcaaGreatMbo
namespace Go.K
open Go
set_option linter.unusedVariables false
theorem firstS_vv (o d : VL) (tris : List TL) : firstS (Ψ .cV (vv o)) (Ψ .cV (vv d)) tris = firstS o d tris := by
 unfold firstS
 have e : hitAt (Ψ .cV (vv o)) (Ψ .cV (vv d)) tris = hitAt o d tris := by
  funext i
  unfold hitAt
  rw [vv_cV, vv_cV]
 rw [e]
theorem follow_hops {F : Fcs} : ∀ (n : Nat) (l : Lk) (f : Nat) (l' : Lk), followS F n l = some (f, l') → ∃ r, l'.hops = l.hops ++ r
 | n, l, f, l', h => by
  rw [followS] at h
  cases hn : F.near l.p l.dir with
  | none => rw [hn] at h; cases h
  | some x =>
   obtain ⟨g, s⟩ := x
   rw [hn] at h
   simp only at h
   cases hb : F.bend g l.dir with
   | none =>
    rw [hb] at h
    simp only at h
    cases h
    exact ⟨[], by simp⟩
   | some k =>
    rw [hb] at h
    simp only at h
    cases n with
    | zero => cases h
    | succ n =>
     simp only at h
     obtain ⟨r, hr⟩ := follow_hops n _ f l' h
     exact ⟨g :: r, by rw [hr]; show (l.hops ++ [g]) ++ r = _; rw [List.append_assoc]; rfl⟩
inductive First (s : ScL) (o d : V3) (bin : Int) : Prop where
 | none : nearF s o d = none → followR s o d bin = none → First s o d bin
 | hop (f : Nat) (t : Rat) (fc : FaceL) (m : MatL) : nearF s o d = some (f, t) → s.faces[f]? = some fc → s.mats[fc.mat.toNat]? = some m → fc.mat = Ω .ci fc.mat.toNat → (m.kind = 1 ∨ m.kind = 2) →
   (∀ g l, followR s o d bin = some (g, l) → ∃ r, l.hops = f :: r) → First s o d bin
 | ends (f : Nat) (t : Rat) (fc : FaceL) (m : MatL) : nearF s o d = some (f, t) → s.faces[f]? = some fc → s.mats[fc.mat.toNat]? = some m → fc.mat = Ω .ci fc.mat.toNat → m.kind ≠ 1 → m.kind ≠ 2 →
   followR s o d bin = some (f, ⟨vadd o (vmul t d), d, [], idM, 1⟩) → First s o d bin
theorem first_of {s : ScL} (o d : V3) {bin : Int} (hc : checkS s = 0) (h0 : 0 ≤ bin) (h1 : bin < s.waves.length) : First s o d bin := by
 have e : followR s o d bin = followS (fcsOf s bin.toNat) 8 (lk0 o d) := by unfold followR; rw [if_pos ⟨hc, h0, h1⟩]
 have ok := scOk_of hc
 have e2 := e
 rw [followS] at e2
 have hl : (fcsOf s bin.toNat).near (lk0 o d).p (lk0 o d).dir = nearF s o d := rfl
 rw [hl] at e2
 cases hn : nearF s o d with
 | none =>
  rw [hn] at e2
  exact .none hn e2
 | some x =>
  obtain ⟨f, t⟩ := x
  obtain ⟨hf, _⟩ := (near_F s bin.toNat).some _ _ _ _ hn
  obtain ⟨fc, m, h2, h3, h4, h5⟩ := matF_some ok hf
  rw [hn] at e2
  simp only at e2
  have hb : (fcsOf s bin.toNat).bend f (lk0 o d).dir = bendM s.waves m bin.toNat (decide (vdot d (unitF s f) < 0)) := by
   show (match matF s f with | some m => bendM s.waves m bin.toNat (decide (vdot d (unitF s f) < 0)) | none => none) = _
   rw [h5]
  rw [hb] at e2
  by_cases k1 : m.kind = 1
  ·refine .hop f t fc m hn h2 h3 h4 (.inl k1) fun g l hl => ?_
   rw [hl] at e2
   unfold bendM at e2
   rw [if_pos k1] at e2
   simp only at e2
   obtain ⟨r, hr⟩ := follow_hops 7 _ g l e2.symm
   exact ⟨r, hr⟩
  ·by_cases k2 : m.kind = 2
   ·refine .hop f t fc m hn h2 h3 h4 (.inr k2) fun g l hl => ?_
    rw [hl] at e2
    unfold bendM at e2
    rw [if_neg k1, if_pos k2] at e2
    simp only at e2
    obtain ⟨r, hr⟩ := follow_hops 7 _ g l e2.symm
    exact ⟨r, hr⟩
   ·refine .ends f t fc m hn h2 h3 h4 k1 k2 ?_
    unfold bendM at e2
    rw [if_neg k1, if_neg k2] at e2
    exact e2
end Go.K
namespace Go.K.S
open Go Go.K
set_option maxHeartbeats 16000000
set_option maxRecDepth 20000
set_option linter.unusedVariables false
set_option linter.unusedSimpArgs false
theorem chainPlain_good (s : ScL) (x : VL × VL) (bin : Int) (hs : Scn 1048576 s) (hx : Vn 1048576 x.1 ∧ Vn 1048576 x.2) (hb : -9223372036854775808 ≤ bin ∧ bin ≤ 9223372036854775807) :
  Good P F.penumbralaw15_ChainPlain [.d (.agg (dSc Ψ (matsD s.mats) (facesD s.faces) s)), .d (.agg (dV Ψ x.1 ++ dV Ψ x.2)), .d (.i .i64 bin)] [] (.d (.b true)) [] := by
 refine G.penumbralaw15_ChainPlain fun C C2 hC hC2 => ?_
 obtain ⟨o, d⟩ := x
 obtain ⟨ho, hd⟩ := hx
 simp only at ho hd ⊢
 have hD := scD_of s
 obtain ⟨K, hK⟩ : ∃ K, K = 1048576 := ⟨_, rfl⟩
 rw [← hK] at hs ho hd
 obtain ⟨p0, hp0⟩ : ∃ p, p = 3 * K := ⟨_, rfl⟩
 obtain ⟨gr, hgr⟩ : ∃ g, g = 2 * p0 + 20000 := ⟨_, rfl⟩
 have co : Cn p0 (vv o) := by rw [hp0]; exact Cn.of (Pn_vv ho (by omega))
 have cd : Cn p0 (vv d) := by rw [hp0]; exact Cn.of (Pn_vv hd (by omega))
 have hm : mvB p0 gr 8 < 260000000 := by simp only [mvB]; omega
 have hm7 : mvB p0 gr 7 < 260000000 := Nat.lt_of_le_of_lt (mvB_8 _ _ 7 (by omega)) hm
 have g1 := follow_good s hD hs (by omega) (by omega) o d (K := K) (p0 := p0) (e0 := p0) (gr := gr) (by omega) ho hd (by omega) co cd bin (by omega) (by omega)
 have gck := check9_good s hD hs (by omega) (by omega)
 have g4 := fixed15_good
 by_cases hc : checkS s = 0
 rotate_left
 ·have e : followR s (vv o) (vv d) bin = none := by unfold followR; rw [if_neg (fun h => hc h.1)]
  rw [e] at g1
  simp only [lkD, Option.isSome_none] at g1
  unfold dLk at g1
  have q : Ω .ne (checkS s) 0 = true := ne_true'.2 hc
  clear hD
  generalize checkS s = c at *
  generalize matsD s.mats = MD at *
  generalize facesD s.faces = FD at *
  first | exact rq (Q := True) trivial | (refine rq ?_; rfl)
 rw [hc] at gck
 have qc : Ω .ne 0 0 = false := rfl
 by_cases h0 : 0 ≤ bin
 rotate_left
 ·have e : followR s (vv o) (vv d) bin = none := by unfold followR; rw [if_neg (fun h => h0 h.2.1)]
  rw [e] at g1
  simp only [lkD, Option.isSome_none] at g1
  unfold dLk at g1
  have q : Ω .lt bin 0 = true := lt_true.2 (by omega)
  clear hD
  generalize matsD s.mats = MD at *
  generalize facesD s.faces = FD at *
  first | exact rq (Q := True) trivial | (refine rq ?_; rfl)
 have q1 : Ω .lt bin 0 = false := lt_false.2 h0
 by_cases h1 : bin < s.waves.length
 rotate_left
 ·have e : followR s (vv o) (vv d) bin = none := by unfold followR; rw [if_neg (fun h => h1 h.2.2)]
  rw [e] at g1
  simp only [lkD, Option.isSome_none] at g1
  unfold dLk at g1
  have hw : Ω .slen (Ψ .dRs s.waves) = s.waves.length := slen_dRs _
  have q : Ω .le (Ω .ci s.waves.length) bin = true := le_true.2 (by rw [w_ci]; omega)
  clear hD
  generalize matsD s.mats = MD at *
  generalize facesD s.faces = FD at *
  first | exact rq (Q := True) trivial | (refine rq ?_; rfl)
 have hw : Ω .slen (Ψ .dRs s.waves) = s.waves.length := slen_dRs _
 have q2 : Ω .le (Ω .ci s.waves.length) bin = false := le_false.2 (by rw [w_ci]; omega)
 have ok := scOk_of hc
 have hfl := ok.f2
 have gT := tris15_good s hD (by omega)
 have H : TriH (trisA s) (trisD (trisA s)) := triH_map (by rw [trisA_len]; omega)
 have htn : ∀ t, t ∈ trisA s → Tn 2 t := fun t ht => by
  obtain ⟨f, hf, rfl⟩ := List.mem_map.1 ht
  exact ok.n.fv f (List.mem_of_mem_take hf)
 have gN := nearest12_good H o d (k := K) ho hd (fun t ht => (htn t ht).mono (by omega)) (by omega) (by omega)
 have nF := n_F ok bin.toNat
 rcases first_of (vv o) (vv d) hc h0 h1 with ⟨hn, hr⟩ | ⟨f, t, fc, m, hn, m1, m2, m3, hk, hr⟩ | ⟨f, t, fc, m, hn, m1, m2, m3, hk1, hk2, hr⟩
 ·have hn' := nearF_none hn
  rw [firstS_vv] at hn'
  rw [decide_eq_false hn'] at gN
  rw [hr] at g1
  simp only [lkD, Option.isSome_none] at g1
  unfold dLk at g1
  clear hD H htn hn hn' hr nF
  generalize matsD s.mats = MD at *
  generalize facesD s.faces = FD at *
  generalize trisD (trisA s) = TD at *
  generalize Ψ .cM (firstS o d (trisA s)).m = M at *
  generalize (firstS o d (trisA s)).best = b at *
  first | exact rq (Q := True) trivial | (refine rq ?_; rfl)
 ·obtain ⟨n1, n2, n3⟩ := nearF_some hn
  rw [firstS_vv] at n1 n2 n3
  rw [decide_eq_true n1, n2] at gN
  have gm := mat15_good s hD m1 m2 m3
  unfold dMat at gm
  have k12 : Ω .eq m.kind 1 = decide (m.kind = 1) ∧ Ω .eq m.kind 2 = decide (m.kind = 2) := ⟨q_eq, q_eq⟩
  cases hR : followR s (vv o) (vv d) bin with
  | none =>
   rw [hR] at g1
   simp only [lkD, Option.isSome_none] at g1
   unfold dLk at g1
   clear hD H htn hn n1 n2 n3 hr nF hR
   generalize matsD s.mats = MD at *
   generalize facesD s.faces = FD at *
   generalize trisD (trisA s) = TD at *
   generalize Ψ .cM (firstS o d (trisA s)).m = M at *
   generalize Ω .ci f = fi at *
   obtain ⟨e1, e2⟩ := k12
   rcases hk with hk | hk
   ·rw [decide_eq_true hk] at e1
    clear e2
    first | exact rq (Q := True) trivial | (refine rq ?_; rfl)
   ·rw [decide_eq_true hk] at e2
    rw [decide_eq_false (by omega)] at e1
    first | exact rq (Q := True) trivial | (refine rq ?_; rfl)
  | some y =>
   obtain ⟨g, l⟩ := y
   obtain ⟨r, hl⟩ := hr g l hR
   rw [hR] at g1
   simp only [lkD, Option.isSome_some, hl] at g1
   unfold dLk at g1
   have hlen := (followR_n (p0 := p0) (e0 := p0) (G := gr) (by omega) co cd hR).h
   have ol := oD_ok.len (f :: r)
   have og := oD_ok.get (f :: r) 0 f rfl
   have hll : (f :: r).length ≤ 8 := by rw [← hl]; exact hlen
   have qh : Ω .lt 0 (Ω .ci (Ω .slen (oD (f :: r)))) = true := by rw [ol]; simp only [wz, List.length_cons]; omega
   have qs : 0 < Ω .slen (oD (f :: r)) := by rw [ol]; exact Nat.succ_pos _
   have qf : Ω .eq (Ω .ci f) (Ω .ci f) = true := eq_true'.2 rfl
   clear hD H htn hn n1 n2 n3 hr nF hR hl hlen ol hll
   generalize oD (f :: r) = HD at *
   generalize matsD s.mats = MD at *
   generalize facesD s.faces = FD at *
   generalize trisD (trisA s) = TD at *
   generalize Ψ .cM (firstS o d (trisA s)).m = M at *
   generalize Ω .ci f = fi at *
   generalize Ψ .cV l.p = LP at *
   generalize Ψ .cV l.dir = LD at *
   generalize cMap Ψ l.map = LM at *
   generalize Ψ .cr l.gain = LG at *
   generalize Ω .ci g = gi at *
   obtain ⟨e1, e2⟩ := k12
   rcases hk with hk | hk
   ·rw [decide_eq_true hk] at e1
    clear e2
    first | exact rq (Q := True) trivial | (refine rq ?_; rfl)
   ·rw [decide_eq_true hk] at e2
    rw [decide_eq_false (by omega)] at e1
    first | exact rq (Q := True) trivial | (refine rq ?_; rfl)
 ·obtain ⟨n1, n2, n3⟩ := nearF_some hn
  rw [firstS_vv] at n1 n2 n3
  rw [decide_eq_true n1, n2] at gN
  have gm := mat15_good s hD m1 m2 m3
  unfold dMat at gm
  have e1 : Ω .eq m.kind 1 = false := eq_false'.2 hk1
  have e2 : Ω .eq m.kind 2 = false := eq_false'.2 hk2
  have hE := followR_n (p0 := p0) (e0 := p0) (G := gr) (by omega) co cd hr
  obtain ⟨N, hN⟩ : ∃ N, N = 260000000 := ⟨_, rfl⟩
  have nL := hE.n (k := N) f (by omega) (by omega) (by omega)
  rw [hr] at g1
  simp only [lkD, Option.isSome_some] at g1
  unfold dLk at g1
  have gi := ident7_good
  have go := one3_good
  have ct := (nF.len _ _ _ _ _ _ hn co cd).size
  have ga := at8_good o d (Ψ .cr t) (k := N) (ho.mono (by omega)) (hd.mono (by omega)) (Rn_cr.2 (ct.mono (by omega))) (by omega) (by omega)
  rw [rv_cr] at ga
  have gr5 := read5_good d hd (by omega)
  have nP : Vn N (Ψ .cV (vadd (vv o) (vmul t (vv d)))) := nL.p
  have nD : Vn N (Ψ .cV (vv d)) := nL.d
  have nM : Mpn N (cMap Ψ idM) := nL.m
  have i1 := is5_good _ _ nP nP (by omega) (by omega)
  have i2 := is5_good _ _ nD nD (by omega) (by omega)
  have i3 := is7_good _ _ nM nM (by omega) (by omega)
  have i4 := is3_good _ _ nL.g nL.g (by omega) (by omega)
  have eg : (lkL (some (f, (⟨vadd (vv o) (vmul t (vv d)), vv d, [], idM, 1⟩ : Lk)))).gain = Ψ .cr 1 := rfl
  rw [eg] at i4
  rw [decide_eq_true rfl] at i1 i2 i3 i4
  have em : Ψ .cM (firstS o d (trisA s)).m = ⟨Ψ .cr t, (Ψ .cM (firstS o d (trisA s)).m).u, (Ψ .cM (firstS o d (trisA s)).m).v⟩ := by rw [← n3]; rfl
  rw [em] at gN
  have o0 := oD_ok.nil
  rw [o0] at g1
  have q0 : Ω .eq (Ω .ci (Ω .slen [])) 0 = true := by rw [show Ω .slen [] = 0 from rfl]; exact eq_true'.2 (by rw [w_ci]; rfl)
  have qf : Ω .eq (Ω .ci f) (Ω .ci f) = true := eq_true'.2 rfl
  clear hD H htn hn n1 n2 n3 hr nF hE nL ct nP nD nM eg em o0
  generalize matsD s.mats = MD at *
  generalize facesD s.faces = FD at *
  generalize trisD (trisA s) = TD at *
  generalize (Ψ .cM (firstS o d (trisA s)).m).u = MU at *
  generalize (Ψ .cM (firstS o d (trisA s)).m).v = MV at *
  generalize Ψ .cV (vadd (vv o) (vmul t (vv d))) = LP at *
  generalize Ψ .cV (vv d) = LD at *
  generalize cMap Ψ idM = LM at *
  generalize Ψ .cr 1 = LG at *
  generalize Ψ .cr t = Tt at *
  generalize Ω .ci f = fi at *
  first | exact rq (Q := True) trivial | (refine rq ?_; trace_state; rfl)
end Go.K.S
