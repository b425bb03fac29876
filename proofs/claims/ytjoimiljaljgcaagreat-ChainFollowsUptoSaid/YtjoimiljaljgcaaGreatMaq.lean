/-
  Parts of the proof, joined by a program of this work: KLaw15, KLawChainFollows.
-/
import Derived.Test.YtjoimiljaljgcaaGreatMap
import Derived.Test.YtjoimiljaljgcaaGreatMao
set_option linter.unusedSimpArgs false
set_option linter.unusedVariables false
section
namespace Go.K.S
open Go Go.K
set_option maxHeartbeats 16000000
set_option maxRecDepth 20000
theorem room15_good : Good P F.penumbralaw15_room [] [] (.d (.agg (dSc Ψ (matsD roomS.mats) (facesD roomS.faces) roomS))) [] := by
  refine G.penumbralaw15_room fun C C2 hC hC2 => ?_
  have g := parse9_room
  generalize matsD roomS.mats = MD at *
  generalize facesD roomS.faces = FD at *
  generalize roomS = s at *
  exact rq (Q := True) trivial
theorem room_follow (o d : V3) (ho : Pn 1 o) (hd : Pn 1 d) : Good P F.chain_Follow [.d (.agg (dSc Ψ (matsD roomS.mats) (facesD roomS.faces) roomS)), .d (.agg (dV Ψ (Ψ .cV o))), .d (.agg (dV Ψ (Ψ .cV d))), .d (.i .i64 0)] []
      (.tup [.d (lkD (followR roomS o d 0)), .d (.b (followR roomS o d 0).isSome)]) [] := by
  have hm : mvB 3 20010 7 < 714000000 := by simp only [mvB]; omega
  have h := follow_good roomS (scD_of roomS) room_scn (by omega) (by omega) (Ψ .cV o) (Ψ .cV d) (K := 1) (p0 := 3) (e0 := 3) (gr := 20010) (by omega) (Vn_cV ho) (Vn_cV hd) (by omega)
    (by rw [vv_cV]; exact Cn.of ho) (by rw [vv_cV]; exact Cn.of hd) 0 (by omega) hm
  rw [vv_cV, vv_cV] at h
  exact h
theorem Pn1_int (x y z : Int) (hx : x.natAbs < 4294967296) (hy : y.natAbs < 4294967296) (hz : z.natAbs < 4294967296) : Pn 1 ⟨x, y, z⟩ := ⟨Qn_int hx, Qn_int hy, Qn_int hz⟩
theorem roomL_map : Mpn 1 (cMap Ψ roomL.map) := by
  have hq : ∀ q : Rat, decide (q.num.natAbs < 4294967296 ∧ q.den < 4294967296) = true → Qn 1 q := fun q h => by
    obtain ⟨h1, h2⟩ := of_decide_eq_true h
    exact ⟨by rw [Nat.pow_one]; exact h1, by rw [Nat.pow_one]; exact h2⟩
  exact Mpn_c ⟨⟨hq _ (by decide +kernel), hq _ (by decide +kernel), hq _ (by decide +kernel)⟩, ⟨hq _ (by decide +kernel), hq _ (by decide +kernel), hq _ (by decide +kernel)⟩, ⟨hq _ (by decide +kernel), hq _ (by decide +kernel), hq _ (by decide +kernel)⟩, ⟨hq _ (by decide +kernel), hq _ (by decide +kernel), hq _ (by decide +kernel)⟩⟩
theorem fixed15_good : Good P F.penumbralaw15_fixed [] [] (.d (.b true)) [] := by
  refine G.penumbralaw15_fixed fun C C2 hC hC2 => ?_
  have g0 := room15_good
  have p001 := Pn1_int 0 0 1 (by omega) (by omega) (by omega)
  have p101 := Pn1_int 1 0 1 (by omega) (by omega) (by omega)
  have p003 := Pn1_int 0 0 3 (by omega) (by omega) (by omega)
  have p300 := Pn1_int 3 0 0 (by omega) (by omega) (by omega)
  have p304 := Pn1_int 3 0 4 (by omega) (by omega) (by omega)
  have g1 := room_follow _ _ p001 p101
  have g2 := room_follow _ _ p003 p001
  have v1 := vof_good 0 0 1 (by omega) (by omega) (by omega) (by omega) (by omega) (by omega)
  have v2 := vof_good 1 0 1 (by omega) (by omega) (by omega) (by omega) (by omega) (by omega)
  have v3 := vof_good 0 0 3 (by omega) (by omega) (by omega) (by omega) (by omega) (by omega)
  have v4 := of5_good 3 0 0 (by omega) (by omega) (by omega) (by omega) (by omega) (by omega)
  have v5 := of5_good 3 0 4 (by omega) (by omega) (by omega) (by omega) (by omega) (by omega)
  have v6 := of3_good 1 2 (by omega) (by omega) (by omega) (by omega)
  have e1 : followR roomS ⟨(0 : Int), (0 : Int), (1 : Int)⟩ ⟨(1 : Int), (0 : Int), (1 : Int)⟩ 0 = some (0, roomL) := room_ray
  have e2 : followR roomS ⟨(0 : Int), (0 : Int), (3 : Int)⟩ ⟨(0 : Int), (0 : Int), (1 : Int)⟩ 0 = none := room_no
  rw [e1] at g1
  rw [e2] at g2
  have hp : roomL.p = ⟨(3 : Int), (0 : Int), (0 : Int)⟩ := rfl
  have hh : roomL.hops = [1] := rfl
  have hga : roomL.gain = ((1 : Int) : Rat) / ((2 : Int) : Rat) := by rw [roomL_gain]; decide +kernel
  simp only [lkD, Option.isSome_some, Option.isSome_none, hp, hh, hga] at g1 g2
  have q2 : Qn 1 (((1 : Int) : Rat) / ((2 : Int) : Rat)) := by rw [← hga, roomL_gain]; exact ⟨by decide +kernel, by decide +kernel⟩
  have i1 := is5_good _ _ (Vn_cV p300) (Vn_cV p300) (by omega) (by omega)
  have ga := apply_good (cMap Ψ roomL.map) _ roomL_map (Vn_cV p300) (by omega) (by omega)
  rw [mv_cMap, vv_cV, ← hp, roomL_apply] at ga
  have i2 := is5_good _ _ (Vn_cV p304) (Vn_cV p304) (by omega) (by omega)
  have i3 := is3_good _ _ (Rn_cr.2 q2) (Rn_cr.2 q2) (by omega) (by omega)
  rw [hp] at ga
  have e304 : (⟨3, 0, 4⟩ : V3) = ⟨(3 : Int), (0 : Int), (4 : Int)⟩ := rfl
  rw [e304] at ga
  rw [decide_eq_true rfl] at i1 i2 i3
  have x1 := oD_ok.len [1]
  have x2 := oD_ok.get [1] 0 1 rfl
  have xs : Ω .eq (Ω .ci (Ω .slen (oD [1]))) 1 = true := by rw [x1]; exact eq_true'.2 (by rw [w_ci]; rfl)
  have xc : Ω .ci 1 = 1 := by rw [w_ci]; rfl
  have x0 : Ω .ci 0 = 0 := by rw [w_ci]; rfl
  rw [xc] at x2
  rw [x0] at g1
  generalize matsD roomS.mats = MD at *
  generalize facesD roomS.faces = FD at *
  generalize oD [1] = HD at *
  generalize cMap Ψ roomL.map = M at *
  generalize Ψ .cV roomL.dir = DD at *
  generalize Ψ .cV ⟨(0 : Int), (0 : Int), (1 : Int)⟩ = A001 at *
  generalize Ψ .cV ⟨(1 : Int), (0 : Int), (1 : Int)⟩ = A101 at *
  generalize Ψ .cV ⟨(0 : Int), (0 : Int), (3 : Int)⟩ = A003 at *
  generalize Ψ .cV ⟨(3 : Int), (0 : Int), (0 : Int)⟩ = A300 at *
  generalize Ψ .cV ⟨(3 : Int), (0 : Int), (4 : Int)⟩ = A304 at *
  generalize Ψ .cr (((1 : Int) : Rat) / ((2 : Int) : Rat)) = RH at *
  generalize roomS = s at *
  clear p001 p101 p003 p300 p304 e1 e2 hp hh hga q2 e304 x1 xc x0
  first | exact rq (Q := True) trivial | (refine rq ?_; trace_state; rfl)
end Go.K.S
end
section
namespace Go.K.S
open Go Go.K
set_option maxHeartbeats 16000000
set_option maxRecDepth 20000
theorem chainFollows_good (s : ScL) (x : VL × VL) (bin : Int) (hs : Scn 1048576 s) (hx : Vn 1048576 x.1 ∧ Vn 1048576 x.2) (hb : -9223372036854775808 ≤ bin ∧ bin ≤ 9223372036854775807) :
    Good P F.penumbralaw15_ChainFollows [.d (.agg (dSc Ψ (matsD s.mats) (facesD s.faces) s)), .d (.agg (dV Ψ x.1 ++ dV Ψ x.2)), .d (.i .i64 bin)] [] (.d (.b true)) [] := by
  refine G.penumbralaw15_ChainFollows fun C C2 hC hC2 => ?_
  obtain ⟨o, d⟩ := x
  obtain ⟨ho, hd⟩ := hx
  simp only at ho hd ⊢
  have hD := scD_of s
  obtain ⟨K, hK⟩ : ∃ K, K = 1048576 := ⟨_, rfl⟩
  rw [← hK] at hs ho hd
  obtain ⟨p0, hp0⟩ : ∃ p, p = 3 * K := ⟨_, rfl⟩
  obtain ⟨gr, hgr⟩ : ∃ g, g = 2 * p0 + 20000 := ⟨_, rfl⟩
  have co : Cn p0 (vv o) := by rw [hp0]; exact Cn.of (Pn_vv ho (by omega))
  have cd : Cn p0 (vv d) := by rw [hp0]; exact Cn.of (Pn_vv hd (by omega))
  have hm : mvB p0 gr 8 < 260000000 := by simp only [mvB]; omega
  have hm7 : mvB p0 gr 7 < 260000000 := Nat.lt_of_le_of_lt (mvB_8 _ _ 7 (by omega)) hm
  have g1 := follow_good s hD hs (by omega) (by omega) o d (K := K) (p0 := p0) (e0 := p0) (gr := gr) (by omega) ho hd (by omega) co cd bin (by omega) (by omega)
  have g2 := follow15_good s hD hs (by omega) (by omega) o d (K := K) (p0 := p0) (e0 := p0) (gr := gr) (by omega) ho hd (by omega) co cd bin (by omega) (by omega)
  have hn : Lkn 260000000 (lkL (followR s (vv o) (vv d) bin)) := lk_n (p0 := p0) (e0 := p0) (G := gr) (by omega) co cd (by omega) (by omega) hm
  have g3 := is15_good _ _ hn hn (by omega) (by omega)
  rw [decide_eq_true rfl] at g3
  rw [lkD_dL] at g1
  have g4 := fixed15_good
  generalize matsD s.mats = MD at *
  generalize facesD s.faces = FD at *
  generalize ptsD (ptsR s (vv o) (vv d) bin) = PD at *
  generalize (followR s (vv o) (vv d) bin).isSome = ok at *
  unfold dL at g1 g2 g3
  generalize lkL (followR s (vv o) (vv d) bin) = L at *
  clear hn co cd hm hm7
  generalize oD L.hops = HD at *
  cases ok <;> first | exact rq (Q := True) trivial | (refine rq ?_; trace_state; rfl)
end Go.K.S
end
