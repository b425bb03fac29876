/-
  Parts of the proof, joined by a program of this work: KChain, KChain2, KRef15, KRef15b, KRoomS, KRoom3, KLaw15.
-/
import Derived.Test.YtjoimiljaljgcaaGreatMbn
import Derived.Test.YtjoimiljaljgcaaGreatMbk
import Derived.Test.YtjoimiljaljgcaaGreatMbl
set_option linter.unusedSimpArgs false
set_option linter.unusedVariables false
set_option maxHeartbeats 16000000
set_option maxRecDepth 20000
section
namespace Go.K
open Go
def zR : RL := ⟨false, [], []⟩
def zV : VL := ⟨zR, zR, zR⟩
def zM : MapL := ⟨zV, zV, zV, zV⟩
def lkC (Ψ : (t : Sd) → STy t) (face : Int) (own : V) (p dir : VL) (map : MapL) (gain : RL) : List V :=
 .d (.i .i64 face) :: ((dV Ψ p).map V.d ++ (dV Ψ dir).map V.d ++ own :: ((dMap Ψ map).map V.d ++ (dR Ψ gain).map V.d))
def z3 : List V := [.d (.b false), .nil, .nil]
def lkZ : List V := .d (.i .i64 0) :: (z3 ++ z3 ++ z3 ++ (z3 ++ z3 ++ z3) ++ .nil :: (z3 ++ z3 ++ z3 ++ (z3 ++ z3 ++ z3) ++ (z3 ++ z3 ++ z3) ++ (z3 ++ z3 ++ z3) ++ z3))
def lkV (Ψ : (t : Sd) → STy t) (face : Int) (own : V) (l : Lk) : List V := lkC Ψ face own (Ψ .cV l.p) (Ψ .cV l.dir) (cMap Ψ l.map) (Ψ .cr l.gain)
theorem nearF_none {s : ScL} {o d : V3} (h : nearF s o d = none) : ¬ 0 ≤ (firstS (Ψ .cV o) (Ψ .cV d) (trisA s)).best := fun c => by
 unfold nearF at h
 rw [if_pos c] at h
 cases h
theorem nearF_some {s : ScL} {o d : V3} {f : Nat} {t : Rat} (h : nearF s o d = some (f, t)) : 0 ≤ (firstS (Ψ .cV o) (Ψ .cV d) (trisA s)).best ∧ (firstS (Ψ .cV o) (Ψ .cV d) (trisA s)).best = Ω .ci f ∧ (firstS (Ψ .cV o) (Ψ .cV d) (trisA s)).m.s = t := by
 unfold nearF at h
 split at h
 ·rename_i c
  cases h
  exact ⟨c, by rw [w_ci]; omega, rfl⟩
 ·cases h
end Go.K
namespace Go.K.S
open Go Go.K
def rB (MD FD : List D) (s : ScL) : List Blk := rblks Ψ MD FD (nodesD (buildS (trisA s)).nodes) (oD (buildS (trisA s)).order) (trisD (trisA s)) (Ψ .dVs (unitsL s s.faces.length)) (Ψ .dRs (areasL s s.faces.length)) (oD (lightsL s s.faces.length)) s T.api_Tri T.api_Vec T.api_Rat T.int
def fromV (r : Option (Nat × Lk)) : V := match r with
 | none => .tup [.agg lkZ, .d (.b false)]
 | some (f, l) => .tup [.agg (lkV Ψ (Ω .ci f) (.own 5 1) l), .d (.b true)]
def fromB (r : Option (Nat × Lk)) : List Blk := match r with
 | none => []
 | some (_, l) => [.row true T.int 1 (oD l.hops)]
theorem from_good (s : ScL) {MD FD : List D} (hD : ScD s MD FD) (ok : ScOk s) (o d : VL) {K p0 e0 gr bin : Nat} (hG : 2 * e0 + 20000 ≤ gr) (ho : Vn K o) (hd : Vn K d) (hK : K < 549755813888) (cp : Cn p0 (vv o)) (ce : Cn e0 (vv d)) (hb : bin < s.waves.length)
  (hp0 : p0 + 9 * gr < 134000000) (hm0 : mvB p0 gr 7 < 714000000) :
  Good P F.chain_From [.ptr 0 0, .agg ((dV Ψ o).map V.d), .agg ((dV Ψ d).map V.d), .d (.i .i64 (Ω .ci bin))] (rB MD FD s)
   (fromV (followS (fcsOf s bin) 8 (lk0 (vv o) (vv d)))) (rB MD FD s ++ fromB (followS (fcsOf s bin) 8 (lk0 (vv o) (vv d)))) := by
 refine G.chain_From (hb := of_decide_eq_true rfl) fun C C2 hC hC2 => ?_
 have f2 := ok.f2
 have H := triH_map (tris := trisA s) (by rw [trisA_len]; omega)
 have htn : ∀ t, t ∈ trisA s → Tn 2 t := fun t ht => by
  obtain ⟨f, hf, rfl⟩ := List.mem_map.1 ht
  exact ok.n.fv f (List.mem_of_mem_take hf)
 have g1 := vread_good o ho hK
 have g2 := vread_good d hd hK
 have g3 := ident_good
 have g4 := of11_good
 have nF := n_F ok bin
 obtain ⟨M7, hM7⟩ : ∃ M, M = mvB p0 gr 7 := ⟨_, rfl⟩
 have hmvB : ∀ i, i ≤ 7 → mvB p0 gr i ≤ M7 := fun i hi => by
  rw [hM7]
  rcases (show i = 0 ∨ i = 1 ∨ i = 2 ∨ i = 3 ∨ i = 4 ∨ i = 5 ∨ i = 6 ∨ i = 7 by omega) with rfl | rfl | rfl | rfl | rfl | rfl | rfl | rfl <;> simp only [mvB] <;> omega
 rw [← hM7] at hm0
 clear hM7
 have hfin : ∀ r : Option (Nat × Lk), r = followS (fcsOf s bin) 8 (lk0 (vv o) (vv d)) → True := fun _ _ => trivial
 obtain ⟨R, hR⟩ : ∃ R, R = followS (fcsOf s bin) 8 (lk0 (vv o) (vv d)) := ⟨_, rfl⟩
 rw [← hR]
 have hround : ∀ (i : Nat) (l : Lk), i ≤ 8 → LkN p0 e0 gr i l → True := fun _ _ _ _ => trivial
 have e1 : Ψ .cV (vv o) = Ψ .cV (lk0 (vv o) (vv d)).p := rfl
 have e2 : Ψ .cV (vv d) = Ψ .cV (lk0 (vv o) (vv d)).dir := rfl
 have e3 : cMap Ψ idM = cMap Ψ (lk0 (vv o) (vv d)).map := rfl
 have e4 : Ψ .cr 1 = Ψ .cr (lk0 (vv o) (vv d)).gain := rfl
 have e5 : oD (lk0 (vv o) (vv d)).hops = [] := rfl
 have hN0 : LkN p0 e0 gr 0 (lk0 (vv o) (vv d)) := LkN.start cp ce
 have hl0 : (lk0 (vv o) (vv d)).hops.length = 0 := rfl
 rw [e1] at g1
 rw [e2] at g2
 rw [e3] at g3
 have g4' := g4
 rw [e4] at g4'
 clear e1 e2 e3 e4 hfin hround cp ce
 generalize lk0 (vv o) (vv d) = l0 at *
 have hul : (unitsL s s.faces.length).length = s.faces.length := by unfold unitsL; rw [List.length_map, List.length_take]; omega
 have hug : ∀ f fc, s.faces[f]? = some fc → Ω .sget (Ψ .dVs (unitsL s s.faces.length)) f = some (.agg (dV Ψ (faceU fc))) := fun f fc h => by
  rw [sget_dVs]; unfold unitsL; rw [List.take_length, List.getElem?_map, h]; rfl
 have gN : ∀ (i : Nat) (l : Lk), i ≤ 8 → LkN p0 e0 gr i l → Good P F.trace_Nearest [.d (.agg [.sl (nodesD (buildS (trisA s)).nodes), .sl (oD (buildS (trisA s)).order)]), .d (.sl (trisD (trisA s))), .d (.agg (dV Ψ (Ψ .cV l.p))), .d (.agg (dV Ψ (Ψ .cV l.dir)))] []
    (.tup [.d (.i .i64 (firstS (Ψ .cV l.p) (Ψ .cV l.dir) (trisA s)).best), .d (.agg (dM Ψ (Ψ .cM (firstS (Ψ .cV l.p) (Ψ .cV l.dir) (trisA s)).m))), .d (.b (decide (0 ≤ (firstS (Ψ .cV l.p) (Ψ .cV l.dir) (trisA s)).best)))]) [] := fun i l hi hN => by
  have hpi : i * gr ≤ 8 * gr := Nat.mul_le_mul_right _ hi
  exact nearest_build H (Ψ .cV l.p) (Ψ .cV l.dir) (k := p0 + 9 * gr) (Vn_cV (hN.p.size.mono (by omega))) (Vn_cV (hN.d.size.mono (by omega))) (fun t ht => (htn t ht).mono (by omega)) (by omega) (by omega) (by rw [trisA_len]; omega)
 have gM : ∀ (i : Nat) (l : Lk) (f : Nat) (t : Rat), i ≤ 8 → LkN p0 e0 gr i l → nearF s l.p l.dir = some (f, t) → ∃ fc m, s.faces[f]? = some fc ∧ Ω .sget (Ψ .dVs (unitsL s s.faces.length)) f = some (.agg (dV Ψ (faceU fc))) ∧ f < s.faces.length ∧ matF s f = some m ∧
   Good P F.tri_At [.d (.agg (dV Ψ (Ψ .cV l.p))), .d (.agg (dV Ψ (Ψ .cV l.dir))), .d (.agg (dR Ψ (Ψ .cr t)))] [] (.d (.agg (dV Ψ (Ψ .cV (vadd l.p (vmul t l.dir)))))) [] ∧
   Good P F.vec_Dot [.d (.agg (dV Ψ (Ψ .cV l.dir))), .d (.agg (dV Ψ (faceU fc)))] [] (.d (.agg (dR Ψ (Ψ .cr (vdot l.dir (unitF s f)))))) [] ∧
   Good P F.rat_Sign [.d (.agg (dR Ψ (Ψ .cr (vdot l.dir (unitF s f)))))] [] (.d (.i .i64 (Ψ .sI (vdot l.dir (unitF s f))))) [] ∧
   (∀ front, Good P F.P_ready_Scene_Bend [.ptr 0 0, .d (.i .i64 (Ω .ci f)), .d (.i .i64 (Ω .ci bin)), .d (.b front)] (rB MD FD s) (.tup [.agg ((dR Ψ (Ψ .cr ((bendM s.waves m bin front).getD 0))).map V.d), .d (.b (bendM s.waves m bin front).isSome)]) (rB MD FD s)) ∧
   Good P F.P_ready_Scene_Mat [.ptr 0 0, .d (.i .i64 (Ω .ci f))] (rB MD FD s) (.agg ((dMat Ψ m).map V.d)) (rB MD FD s) ∧ m ∈ s.mats := fun i l f t hi hN hn => by
  have hpi : i * gr ≤ 8 * gr := Nat.mul_le_mul_right _ hi
  obtain ⟨hf, _⟩ := (near_F s bin).some _ _ _ _ hn
  obtain ⟨fc, m, h1, h2, h3, h4⟩ := matF_some ok hf
  have ct := (nF.len _ _ _ _ _ _ hn hN.p hN.d).size
  have pp := hN.p.size
  have pd := hN.d.size
  have ga := at_good (Ψ .cV l.p) (Ψ .cV l.dir) (Ψ .cr t) (k := 2 * (p0 + 9 * gr)) (Vn_cV (pp.mono (by omega))) (Vn_cV (pd.mono (by omega))) (Rn_cr.2 (ct.mono (by omega))) (by omega) (by omega)
  rw [vv_cV, vv_cV, rv_cr] at ga
  have eu : vv (faceU fc) = unitF s f := by unfold unitF faceU; rw [h1, vv_cV]
  have pu : Vn 150 (faceU fc) := by
   have := unitF_n ok f
   rw [← eu] at this
   unfold faceU at this ⊢
   rw [vv_cV] at this
   exact Vn_cV this
  have gd := vdot_good (Ψ .cV l.dir) (faceU fc) (k := p0 + 9 * gr) (Vn_cV (pd.mono (by omega))) (pu.mono (by omega)) (by omega) (by omega)
  rw [vv_cV, eu] at gd
  have qd := Qn_dot (pd.mono (show _ ≤ p0 + 9 * gr by omega)) ((unitF_n ok f).mono (show 150 ≤ p0 + 9 * gr by omega)) (by omega)
  have gs := sign_good (Ψ .cr (vdot l.dir (unitF s f))) (Rn_cr.2 qd) (by omega)
  rw [rv_cr] at gs
  have hv := ok.n.mv m (List.mem_of_getElem? h2)
  exact ⟨fc, m, h1, hug f fc h1, hf, h4, ga, gd, gs, fun front => bend_good s hD h1 h2 h3 hb hv.2.1 hv.2.2 ok.n.wv front, mat_good s hD h1 h2 h3, List.mem_of_getElem? h2⟩
 have gH : ∀ (i : Nat) (l : Lk) (f : Nat) (t k : Rat) (fc : FaceL) (m : MatL), i ≤ 7 → LkN p0 e0 gr i l → nearF s l.p l.dir = some (f, t) → s.faces[f]? = some fc → matF s f = some m → bendM s.waves m bin (decide (vdot l.dir (unitF s f) < 0)) = some k →
   LkN p0 e0 gr (i + 1) (hopS (fcsOf s bin) l f t k) ∧ (∃ r, Ω .sget (Ψ .dRs m.vals) bin = some (.agg (dR Ψ r)) ∧ Good P F.rat_Product [.d (.sl [.agg (dR Ψ (Ψ .cr l.gain)), .agg (dR Ψ r)])] [] (.d (.agg (dR Ψ (Ψ .cr (hopS (fcsOf s bin) l f t k).gain)))) []) ∧
   Good P F.rat_Div [.d (.agg (dR Ψ (Ψ .cr 1))), .d (.agg (dR Ψ (Ψ .cr k)))] [] (.tup [.d (.agg (dR Ψ (Ψ .cr (1 / k)))), .d (.b (decide (k ≠ 0)))]) [] ∧
   (∃ A, Good P F.affine_Stretch [.d (.agg (dV Ψ (Ψ .cV (vadd l.p (vmul t l.dir))))), .d (.agg (dV Ψ (faceU fc))), .d (.agg (dR Ψ (Ψ .cr k)))] [] (.d (.agg (dMap Ψ A))) [] ∧ Good P F.affine_Turn [.d (.agg (dMap Ψ A)), .d (.agg (dV Ψ (Ψ .cV l.dir)))] [] (.d (.agg (dV Ψ (Ψ .cV (hopS (fcsOf s bin) l f t k).dir)))) []) ∧
   (∃ A, Good P F.affine_Stretch [.d (.agg (dV Ψ (Ψ .cV (vadd l.p (vmul t l.dir))))), .d (.agg (dV Ψ (faceU fc))), .d (.agg (dR Ψ (Ψ .cr (1 / k))))] [] (.d (.agg (dMap Ψ A))) [] ∧ Good P F.affine_Then [.d (.agg (dMap Ψ A)), .d (.agg (dMap Ψ (cMap Ψ l.map)))] [] (.d (.agg (dMap Ψ (cMap Ψ (hopS (fcsOf s bin) l f t k).map)))) []) := by
  intro i l f t k fc m hi hN hn hfc hm hbk
  have hpi : (i + 1) * gr ≤ 8 * gr := Nat.mul_le_mul_right _ (by omega)
  have hb' : (fcsOf s bin).bend f l.dir = some k := by
   show (match matF s f with | some m => bendM s.waves m bin (decide (vdot l.dir (unitF s f) < 0)) | none => none) = some k
   rw [hm]; exact hbk
  have hmm := matF_mem hm
  have hvl : m.vals.length = s.waves.length := by
   have h := ok.mb m hmm
   unfold matB at h
   simp only [Bool.and_eq_true, decide_eq_true_eq] at h
   exact h.1.2
  have hr : m.vals[bin]? = some (m.vals[bin]'(by omega)) := List.getElem?_eq_getElem (by omega)
  have hrn := (ok.n.mv m hmm).1 _ (List.mem_of_getElem? hr)
  have eu : vv (faceU fc) = unitF s f := by unfold unitF faceU; rw [hfc, vv_cV]
  have pu : Vn 150 (faceU fc) := by
   have := unitF_n ok f
   rw [← eu] at this
   unfold faceU at this ⊢
   rw [vv_cV] at this
   exact Vn_cV this
  obtain ⟨b1, b2⟩ := bend_cs nF hb'
  have ck := nF.bend _ _ _ hb'
  have qk := ck.size
  have qk' := ck.inv'.size
  have cu := nF.unit f
  have hp' := hN.at nF hG (by omega) hn
  have pp' := hp'.size
  have hat : ∀ (r : Rat), Qn 13 r → Cs 14 (r - 1) → ∃ A, A = cMap Ψ (stretchS (vadd l.p (vmul t l.dir)) (unitF s f) r) ∧ Mpn (p0 + 9 * gr) A ∧
    Good P F.affine_Stretch [.d (.agg (dV Ψ (Ψ .cV (vadd l.p (vmul t l.dir))))), .d (.agg (dV Ψ (faceU fc))), .d (.agg (dR Ψ (Ψ .cr r)))] [] (.d (.agg (dMap Ψ A))) [] := fun r hr hr2 => by
   have g := stretch_good (Ψ .cV (vadd l.p (vmul t l.dir))) (faceU fc) (Ψ .cr r) (k := p0 + 9 * gr) (Vn_cV (pp'.mono (by omega))) (pu.mono (by omega)) (Rn_cr.2 (hr.mono (by omega))) (by omega) (by omega)
   rw [vv_cV, rv_cr, eu] at g
   have c1 := CM.stretch (p := vadd l.p (vmul t l.dir)) hr2 cu
   have c2 := Cn.move hr2 cu hp'
   exact ⟨_, rfl, Mpn_c ⟨c1.x.size.mono (by omega), c1.y.size.mono (by omega), c1.z.size.mono (by omega), c2.size.mono (by omega)⟩, g⟩
  obtain ⟨A1, eA1, nA1, gA1⟩ := hat k qk b1
  obtain ⟨A2, eA2, nA2, gA2⟩ := hat (1 / k) qk' b2
  have hmv := hmvB i hi
  refine ⟨hN.hop nF hG (by omega) hn hb', ⟨_, hx_dRs hr, ?_⟩, ?_, ⟨A1, gA1, ?_⟩, ⟨A2, gA2, ?_⟩⟩
  ·have g := prod2_good (Ψ .cr l.gain) (m.vals[bin]'(by omega)) (k := 2 * i + 2) (Rn_cr.2 (hN.g.mono (by omega))) (hrn.mono (by omega)) (by omega) (by omega)
   rw [rv_cr] at g
   have e : (hopS (fcsOf s bin) l f t k).gain = l.gain * rv (m.vals[bin]'(by omega)) := by
    show l.gain * (match matF s f with | some m => (match m.vals[bin]? with | some r => rv r | none => 0) | none => 0) = _
    rw [hm]
    simp only
    rw [hr]
   rw [e]
   exact g
  ·have g := rdiv_good (Ψ .cr 1) (Ψ .cr k) (Rn_cr.2 Qn_one') (Rn_cr.2 qk) (by omega) (by omega) (by omega) (by omega)
   rw [rv_cr, rv_cr] at g
   exact g
  ·have g := turn_good A1 (Ψ .cV l.dir) nA1 (Vn_cV (hN.d.size.mono (by omega))) (by omega) (by omega)
   rw [vv_cV, eA1, mv_cMap, ← eA1] at g
   exact g
  ·have nM : Mpn 714000001 (cMap Ψ l.map) := Mpn_c ⟨hN.m.x.size.mono (by omega), hN.m.y.size.mono (by omega), hN.m.z.size.mono (by omega), hN.v.size.mono (by omega)⟩
   have g := then_good A2 (cMap Ψ l.map) (nA2.mono (by omega)) nM (by omega) (by omega)
   rw [mv_cMap, eA2, mv_cMap, ← eA2] at g
   exact g
 have g4h : Hid _ := ⟨g4⟩
 clear H htn hmvB nF g4
 have hO := oD_ok
 unfold rB at gM ⊢
 unfold fromV fromB
 unfold rblks at gM ⊢
 generalize nodesD (buildS (trisA s)).nodes = ND at *
 generalize oD (buildS (trisA s)).order = OD at *
 generalize trisD (trisA s) = TD at *
 generalize oD (lightsL s s.faces.length) = LD at *
 generalize Ψ .dRs (areasL s s.faces.length) = AD at *
 have hus : Ω .slen (Ψ .dVs (unitsL s s.faces.length)) = s.faces.length := by rw [slen_dVs, hul]
 generalize Ψ .dVs (unitsL s s.faces.length) = UD at *
 generalize oD = OO at *
 refine rq ?_
 refine LoopG.introB (σ := Lk) [.cell 1107 19 900001 T.int 1] [0, 3, 8, 10] [0, 1, 2, 3, 4, 1055, 1056, 1057]
  (fun l => [.ptr 0 0, .d (.i .i64 (Ω .ci bin)), .ptr 1055 0, .ptr 1056 0])
  (fun l => [.var (rcell Ψ MD FD s (.own 1 27) (.d (.sl ND)) (.d (.sl OD)) (.own 2 9) (.own 3 3) (.own 4 1)), .row false T.api_Tri 27 TD, .row true T.api_Vec 9 UD, .row true T.api_Rat 3 AD, .row true T.int 1 LD, .var lkZ, .var (lkV Ψ 0 (.own 1057 1) l), .row true T.int 1 (OO l.hops)])
  (fun l => l.hops.length ≤ 8 ∧ LkN p0 e0 gr l.hops.length l ∧ R = followS (fcsOf s bin) (8 - l.hops.length) l)
  (fun l => 8 - l.hops.length) l0 [0, 1, 2, 3, 4, 1002, 1107, 900001] ⟨by omega, by rw [hl0]; exact hN0, by rw [hl0]; exact hR⟩ ⟨rfl, rfl, (by rw [e5]; rfl)⟩ ?_
 rintro l ⟨hi, hN, hRl⟩
 have g4 := g4h.out
 have gn := gN l.hops.length l hi hN
 have gm := fun f t => gM l.hops.length l f t hi hN
 have gh := fun f t k fc m (h : l.hops.length ≤ 7) => gH l.hops.length l f t k fc m h hN
 rw [followS] at hRl
 have hnear : (fcsOf s bin).near l.p l.dir = nearF s l.p l.dir := rfl
 rw [hnear] at hRl
 clear hnear
 have hol := hO.len l.hops
 have hoc := hO.cat l.hops
 clear g1 g2 g3 g4' hR hN0 hl0 hul gH gM gN hO ho hd e5 g4h
 cases hn : nearF s l.p l.dir with
 | none =>
  have h0 := nearF_none hn
  rw [hn] at hRl
  simp only at hRl
  subst hRl
  rw [decide_eq_false h0] at gn
  generalize (firstS (Ψ .cV l.p) (Ψ .cV l.dir) (trisA s)).best = b at *
  generalize Ψ .cM (firstS (Ψ .cV l.p) (Ψ .cV l.dir) (trisA s)).m = M at *
  clear gm gh
  refine rq ?_
  exact ⟨[], rfl, rfl, rfl⟩
 | some x =>
 obtain ⟨f, t⟩ := x
 obtain ⟨h0, h1, h2⟩ := nearF_some hn
 rw [hn] at hRl
 simp only at hRl
 rw [decide_eq_true h0, h1] at gn
 obtain ⟨fc, m, m1, m2, m3, m4, ga, gd, gs, gb, gmat, m5⟩ := gm f t hn
 have qf := @qs_neg (vdot l.dir (unitF s f))
 have gb := gb (decide (vdot l.dir (unitF s f) < 0))
 have hbd : (fcsOf s bin).bend f l.dir = bendM s.waves m bin (decide (vdot l.dir (unitF s f) < 0)) := by
  show (match matF s f with | some m => bendM s.waves m bin (decide (vdot l.dir (unitF s f) < 0)) | none => none) = _
  rw [m4]
 rw [hbd] at hRl
 have gk := fun k h h2 => gh f t k fc m h hn m1 m4 h2
 clear gh
 have gn' : Good P F.trace_Nearest [.d (.agg [.sl ND, .sl OD]), .d (.sl TD), .d (.agg (dV Ψ (Ψ .cV l.p))), .d (.agg (dV Ψ (Ψ .cV l.dir)))] []
   (.tup [.d (.i .i64 (Ω .ci f)), .d (.agg (dM Ψ ⟨Ψ .cr t, (Ψ .cM (firstS (Ψ .cV l.p) (Ψ .cV l.dir) (trisA s)).m).u, (Ψ .cM (firstS (Ψ .cV l.p) (Ψ .cV l.dir) (trisA s)).m).v⟩)), .d (.b true)]) [] := by
  rw [← h2]; exact gn
 clear gn hbd h0 h1 h2 gm hn m1 m4
 generalize (Ψ .cM (firstS (Ψ .cV l.p) (Ψ .cV l.dir) (trisA s)).m).u = mu at *
 generalize (Ψ .cM (firstS (Ψ .cV l.p) (Ψ .cV l.dir) (trisA s)).m).v = mw at *
 generalize decide (vdot l.dir (unitF s f) < 0) = fr at *
 generalize Ψ .sI (vdot l.dir (unitF s f)) = sg at *
 generalize Ψ .cr (vdot l.dir (unitF s f)) = dd at *
 generalize faceU fc = U at *
 have m3' : f < Ω .slen UD := by rw [hus]; exact m3
 cases hbb : bendM s.waves m bin fr with
 | none =>
  rw [hbb] at gb hRl
  simp only [Option.getD_none, Option.isSome_none] at gb
  simp only at hRl
  subst hRl
  clear gk
  generalize Ψ .cr 0 = N0 at *
  generalize Ψ .cr t = Tt at *
  have el : lkV Ψ (Ω .ci f) (.own 5 1) ⟨vadd l.p (vmul t l.dir), l.dir, l.hops, l.map, l.gain⟩ = lkC Ψ (Ω .ci f) (.own 5 1) (Ψ .cV (vadd l.p (vmul t l.dir))) (Ψ .cV l.dir) (cMap Ψ l.map) (Ψ .cr l.gain) := rfl
  simp only
  rw [el]
  clear el
  generalize Ψ .cV (vadd l.p (vmul t l.dir)) = P2 at *
  generalize OO l.hops = HD at *
  cases fr
  all_goals
   refine rq ?_
   exact ⟨[1057], rfl, rfl, rfl⟩
 | some k =>
  rw [hbb] at gb hRl
  simp only [Option.getD_some, Option.isSome_some] at gb
  simp only at hRl
  rcases Nat.lt_or_ge l.hops.length 8 with h8 | h8
  ·have q8 : Ω .eq (Ω .ci (Ω .slen (OO l.hops))) 8 = false := by rw [hol, q_eq]; exact decide_eq_false (by rw [w_ci]; omega)
   obtain ⟨hN', ⟨r, r1, r2⟩, gdiv, ⟨A1, a1, a2⟩, ⟨A2, b1, b2⟩⟩ := gk k (by omega) hbb
   have hh : (hopS (fcsOf s bin) l f t k).hops = l.hops ++ [f] := rfl
   have hhl : (hopS (fcsOf s bin) l f t k).hops.length = l.hops.length + 1 := by rw [hh, List.length_append]; rfl
   have hRn : R = followS (fcsOf s bin) (8 - (hopS (fcsOf s bin) l f t k).hops.length) (hopS (fcsOf s bin) l f t k) := by
    rw [hRl, hhl]
    obtain ⟨n, hn⟩ : ∃ n, 8 - l.hops.length = n + 1 := ⟨7 - l.hops.length, by omega⟩
    rw [hn, show 8 - (l.hops.length + 1) = n by omega]
   have hoc := hoc f
   rw [← hh] at hoc
   have ep : vadd l.p (vmul t l.dir) = (hopS (fcsOf s bin) l f t k).p := rfl
   rw [ep] at ga a1 b1
   clear gk hRl ep
   generalize hopS (fcsOf s bin) l f t k = l' at *
   have h56 : Ω .slen (OO l.hops) + 1 ≤ 100 := by rw [hol]; omega
   generalize Ψ .cr k = Kk at *
   generalize Ψ .cr (1 / k) = Kj at *
   generalize Ψ .cr t = Tt at *
   generalize decide (k ≠ 0) = kz at *
   have el : ∀ (fa : Int) (ow : V) (l : Lk), lkV Ψ fa ow l = lkC Ψ fa ow (Ψ .cV l.p) (Ψ .cV l.dir) (cMap Ψ l.map) (Ψ .cr l.gain) := fun _ _ _ => rfl
   cases fr
   all_goals
    refine rq ?_
    exact ⟨l', [0, 1, 2, 3, 4, 1055, 1056, 2404], ⟨by omega, by rw [hhl]; exact hN', hRn⟩, by omega, rfl, rfl, (by rw [← hoc]; rfl)⟩
  ·have q8 : Ω .eq (Ω .ci (Ω .slen (OO l.hops))) 8 = true := by rw [hol, q_eq]; exact decide_eq_true (by rw [w_ci]; omega)
   rw [show 8 - l.hops.length = 0 by omega] at hRl
   simp only at hRl
   subst hRl
   clear gk
   generalize Ψ .cr k = Kk at *
   generalize Ψ .cr t = Tt at *
   cases fr
   all_goals
    refine rq ?_
    exact ⟨[], rfl, rfl, rfl⟩
end Go.K.S
end
section
namespace Go.K
open Go
def dLk (Ψ : (t : Sd) → STy t) (face : Int) (HD : List D) (p dir : VL) (map : MapL) (gain : RL) : List D := .i .i64 face :: (dV Ψ p ++ dV Ψ dir ++ .sl HD :: (dMap Ψ map ++ dR Ψ gain))
def followR (s : ScL) (o d : V3) (bin : Int) : Option (Nat × Lk) := if checkS s = 0 ∧ 0 ≤ bin ∧ bin < s.waves.length then followS (fcsOf s bin.toNat) 8 (lk0 o d) else none
def lkD (r : Option (Nat × Lk)) : D := match r with
 | none => .agg (dLk Ψ 0 [] zV zV zM zR)
 | some (f, l) => .agg (dLk Ψ (Ω .ci f) (oD l.hops) (Ψ .cV l.p) (Ψ .cV l.dir) (cMap Ψ l.map) (Ψ .cr l.gain))
end Go.K
namespace Go.K.S
open Go Go.K
theorem follow_good (s : ScL) {MD FD : List D} (hD : ScD s MD FD) {k : Nat} (hs : Scn k s) (hk0 : 0 < k) (hk : k < 137438953472) (o d : VL) {K p0 e0 gr : Nat} (hG : 2 * e0 + 20000 ≤ gr) (ho : Vn K o) (hd : Vn K d) (hK : K < 549755813888) (cp : Cn p0 (vv o)) (ce : Cn e0 (vv d))
  (bin : Int) (hp0 : p0 + 9 * gr < 134000000) (hm0 : mvB p0 gr 7 < 714000000) :
  Good P F.chain_Follow [.d (.agg (dSc Ψ MD FD s)), .d (.agg (dV Ψ o)), .d (.agg (dV Ψ d)), .d (.i .i64 bin)] []
   (.tup [.d (lkD (followR s (vv o) (vv d) bin)), .d (.b (followR s (vv o) (vv d) bin).isSome)]) [] := by
 refine G.chain_Follow fun C C2 hC hC2 => ?_
 by_cases hc : checkS s = 0
 rotate_left
 ·have g := new_bad s hD hs hk0 hk hc
  have e : followR s (vv o) (vv d) bin = none := by unfold followR; rw [if_neg (fun h => hc h.1)]
  rw [e]
  clear hc e
  first | exact rq (Q := True) trivial | (refine rq ?_; rfl)
 have gn : Good P F.ready_New [.agg ((dSc Ψ MD FD s).map V.d)] [] (.tup [.ptr 0 0, .d (.b true)]) (rB MD FD s) := new_good s hD hs hk0 hk hc
 have ok := scOk_of hc
 by_cases h0 : 0 ≤ bin
 rotate_left
 ·have e : followR s (vv o) (vv d) bin = none := by unfold followR; rw [if_neg (fun h => h0 h.2.1)]
  rw [e]
  have q : Ω .lt bin 0 = true := lt_true.2 (by omega)
  unfold rB rblks at gn
  generalize nodesD (buildS (trisA s)).nodes = ND at *
  generalize oD (buildS (trisA s)).order = OD at *
  generalize trisD (trisA s) = TD at *
  generalize oD (lightsL s s.faces.length) = LD at *
  generalize Ψ .dRs (areasL s s.faces.length) = AD at *
  generalize Ψ .dVs (unitsL s s.faces.length) = UD at *
  first | exact rq (Q := True) trivial | (refine rq ?_; rfl)
 have q1 : Ω .lt bin 0 = false := lt_false.2 h0
 by_cases h1 : bin < s.waves.length
 rotate_left
 ·have e : followR s (vv o) (vv d) bin = none := by unfold followR; rw [if_neg (fun h => h1 h.2.2)]
  rw [e]
  have q : Ω .le (Ω .ci s.waves.length) bin = true := le_true.2 (by rw [w_ci]; omega)
  unfold rB rblks at gn
  generalize nodesD (buildS (trisA s)).nodes = ND at *
  generalize oD (buildS (trisA s)).order = OD at *
  generalize trisD (trisA s) = TD at *
  generalize oD (lightsL s s.faces.length) = LD at *
  generalize Ψ .dRs (areasL s s.faces.length) = AD at *
  generalize Ψ .dVs (unitsL s s.faces.length) = UD at *
  first | exact rq (Q := True) trivial | (refine rq ?_; rfl)
 have q2 : Ω .le (Ω .ci s.waves.length) bin = false := le_false.2 (by rw [w_ci]; omega)
 have e : followR s (vv o) (vv d) bin = followS (fcsOf s bin.toNat) 8 (lk0 (vv o) (vv d)) := by unfold followR; rw [if_pos ⟨hc, h0, h1⟩]
 rw [e]
 have gf := from_good s hD ok o d (bin := bin.toNat) hG ho hd hK cp ce (by omega) hp0 hm0
 have hbn : Ω .ci bin.toNat = bin := by rw [w_ci]; omega
 rw [hbn] at gf
 generalize followS (fcsOf s bin.toNat) 8 (lk0 (vv o) (vv d)) = R at *
 unfold rB rblks at gn gf
 generalize nodesD (buildS (trisA s)).nodes = ND at *
 generalize oD (buildS (trisA s)).order = OD at *
 generalize trisD (trisA s) = TD at *
 generalize oD (lightsL s s.faces.length) = LD at *
 generalize Ψ .dRs (areasL s s.faces.length) = AD at *
 generalize Ψ .dVs (unitsL s s.faces.length) = UD at *
 clear e hbn hc cp ce hp0 hm0 ho hd hs
 cases R with
 | none =>
  simp only [fromV, fromB, List.append_nil] at gf
  simp only [Option.isSome_none]
  first | exact rq (Q := True) trivial | (refine rq ?_; rfl)
 | some x =>
  obtain ⟨f, l⟩ := x
  simp only [fromV, fromB] at gf
  simp only [Option.isSome_some, lkD]
  unfold lkV at gf
  generalize Ψ .cV l.p = P1 at *
  generalize Ψ .cV l.dir = D1 at *
  generalize cMap Ψ l.map = M1 at *
  generalize Ψ .cr l.gain = G1 at *
  generalize oD l.hops = HD at *
  first | exact rq (Q := True) trivial | (refine rq ?_; rfl)
end Go.K.S
end
section
namespace Go.K
open Go
structure LkL where
 face : Int
 p : VL
 dir : VL
 hops : List Nat
 map : MapL
 gain : RL
def dL (Ψ : (t : Sd) → STy t) (l : LkL) : List D := dLk Ψ l.face (oD l.hops) l.p l.dir l.map l.gain
def lkL (r : Option (Nat × Lk)) : LkL := match r with
 | none => ⟨0, zV, zV, [], zM, zR⟩
 | some (f, l) => ⟨Ω .ci f, Ψ .cV l.p, Ψ .cV l.dir, l.hops, cMap Ψ l.map, Ψ .cr l.gain⟩
structure Lkn (k : Nat) (l : LkL) : Prop where
 p : Vn k l.p
 d : Vn k l.dir
 h : l.hops.length ≤ 100
 m : Mpn k l.map
 g : Rn k l.gain
theorem LkL.ext_iff' {a b : LkL} : a = b ↔ a.face = b.face ∧ a.p = b.p ∧ a.dir = b.dir ∧ a.hops = b.hops ∧ a.map = b.map ∧ a.gain = b.gain := by
 cases a; cases b; simp
instance : DecidableEq LkL := fun _ _ => decidable_of_iff _ LkL.ext_iff'.symm
end Go.K
namespace Go.K.S
open Go Go.K
theorem ints_good (a b : List Nat) (hal : a.length < 1099511627776) (hbl : b.length < 1099511627776) : Good P F.penumbraref15_Ints [.d (.sl (oD a)), .d (.sl (oD b))] [] (.d (.b (decide (a = b)))) [] := by
 refine G.penumbraref15_Ints fun C C2 hC hC2 => ?_
 generalize hr : decide (a = b) = r
 have la := oD_ok.len a
 have lb := oD_ok.len b
 have xa := oD_ok.get a
 have xb := oD_ok.get b
 generalize oD a = A at *
 generalize oD b = B at *
 by_cases he : a.length = b.length
 rotate_left
 ·have q : Ω .ne (Ω .ci (Ω .slen A)) (Ω .ci (Ω .slen B)) = true := by rw [la, lb]; simp only [wz]; omega
  have : r = false := by rw [← hr]; exact decide_eq_false (fun q => he (by rw [q]))
  subst this
  exact rq trivial
 have q : Ω .ne (Ω .ci (Ω .slen A)) (Ω .ci (Ω .slen B)) = false := by rw [la, lb]; simp only [wz]; omega
 refine rq ?_
 refine LoopG.intro (σ := Nat) [0, 1, 5] [] (fun k => [.d (.sl A), .d (.sl B), .d (.i .i64 (Ω .ci k))]) (fun _ => []) (fun k => k ≤ a.length ∧ a.take k = b.take k) (fun k => a.length - k) 0 []
  ⟨Nat.zero_le _, rfl⟩ ⟨rfl, rfl, rfl⟩ ?_
 rintro k ⟨hk, hd⟩
 have hw := wrap_succ (n := k) (by omega)
 rcases Nat.lt_or_ge k a.length with hlt | hge
 ·have q0 : Ω .lt (Ω .ci k) (Ω .ci (Ω .slen A)) = true := by rw [la]; simp only [wz]; omega
  obtain ⟨u, hu⟩ : ∃ u, a[k]? = some u := ⟨_, List.getElem?_eq_getElem (by omega)⟩
  obtain ⟨v, hv⟩ : ∃ v, b[k]? = some v := ⟨_, List.getElem?_eq_getElem (by omega)⟩
  have x1 := xa k u hu
  have x2 := xb k v hv
  by_cases huv : u = v
  ·subst huv
   have q1 : Ω .ne (Ω .ci u) (Ω .ci u) = false := ne_false'.2 rfl
   refine rq ?_
   rw [hw]
   exact ⟨k + 1, [], ⟨hlt, by rw [List.take_add_one, List.take_add_one, hd, hu, hv]⟩, by omega, rfl, rfl, rfl⟩
  ·have q1 : Ω .ne (Ω .ci u) (Ω .ci v) = true := ne_true'.2 (by rw [w_ci, w_ci]; omega)
   have : r = false := by
    rw [← hr]
    refine decide_eq_false (fun q => huv ?_)
    rw [q, hv] at hu
    exact (Option.some.inj hu).symm
   subst this
   exact rq trivial
 ·obtain rfl : k = a.length := by omega
  have q0 : Ω .lt (Ω .ci a.length) (Ω .ci (Ω .slen A)) = false := by rw [la]; simp only [wz]; omega
  have : r = true := by
   rw [← hr]
   refine decide_eq_true ?_
   rw [List.take_length, he, List.take_length] at hd
   exact hd
  subst this
  exact rq trivial
theorem tris15_good (s : ScL) {MD FD : List D} (hD : ScD s MD FD) (hl : s.faces.length ≤ 64) : Good P F.penumbraref15_Tris [.d (.agg (dSc Ψ MD FD s))] [] (.d (.sl (trisD (trisA s)))) [] := by
 refine G.penumbraref15_Tris fun C C2 hC hC2 => ?_
 have hfl := hD.fl
 have hx : ∀ i, i < s.faces.length → ∃ f, Ω .sget FD i = some (.agg (dFace Ψ f)) ∧ Ω .scat (trisD (trisL s i)) [.agg (dT Ψ f.tri)] = trisD (trisL s (i + 1)) := fun i hi => by
  obtain ⟨f, hf⟩ : ∃ f, s.faces[i]? = some f := ⟨_, List.getElem?_eq_getElem hi⟩
  exact ⟨f, hD.f i f hf, by rw [tl_succ hf, trisD_snoc]⟩
 have hz : trisD (trisL s 0) = [] := rfl
 have hln : ∀ i, i ≤ s.faces.length → Ω .slen (trisD (trisL s i)) = i := fun i hi => by
  rw [slen_trisD]; unfold trisL; rw [List.length_map, List.length_take]; omega
 have he : trisD (trisA s) = trisD (trisL s s.faces.length) := rfl
 rw [he]
 obtain ⟨TT, hTT⟩ : ∃ T : Nat → List D, T = fun i => trisD (trisL s i) := ⟨_, rfl⟩
 have eT : ∀ i, trisD (trisL s i) = TT i := fun i => by rw [hTT]
 simp only [eT] at hx hz hln ⊢
 clear eT hTT he
 generalize s.faces.length = nf at *
 refine rq ?_
 refine LoopG.intro (σ := Nat) [1, 3, 4] [1050, 1051] (fun i => [.ptr 1050 0, .own 1051 27, .d (.i .i64 (Ω .ci i))]) (fun i => [.var ((dSc Ψ MD FD s).map V.d), .row true T.api_Tri 27 (TT i)]) (fun i => i ≤ nf) (fun i => nf - i) 0 [1000, 1100]
  (Nat.zero_le _) ⟨rfl, rfl, (by rw [hz]; rfl)⟩ ?_
 intro i hi
 have hw := wrap_succ (n := i) (by omega)
 have hl' := hln i hi
 rcases Nat.lt_or_ge i nf with hlt | hge
 ·obtain ⟨f, x1, x2⟩ := hx i hlt
  have q0 : Ω .lt (Ω .ci i) (Ω .ci (Ω .slen FD)) = true := by rw [hfl]; simp only [wz]; omega
  clear hx
  refine rq ?_
  rw [hw]
  exact ⟨i + 1, [1050, 1508], hlt, by omega, rfl, rfl, (by rw [← x2]; rfl)⟩
 ·obtain rfl : i = nf := by omega
  have q0 : Ω .lt (Ω .ci i) (Ω .ci (Ω .slen FD)) = false := by rw [hfl]; simp only [wz]; omega
  clear hx
  exact rq trivial
theorem normal15_good (s : ScL) {MD FD : List D} (hD : ScD s MD FD) {face : Nat} {f : FaceL} (hf : s.faces[face]? = some f) (hn : Tn 2 f.tri) :
  Good P F.penumbraref15_Normal [.d (.agg (dSc Ψ MD FD s)), .d (.i .i64 (Ω .ci face))] [] (.d (.agg (dV Ψ (faceU f)))) [] := by
 refine G.penumbraref15_Normal fun C C2 hC hC2 => ?_
 have x1 := hD.f face f hf
 have g := unit8_good f.tri hn (by omega) (by omega)
 have e : Ψ .cV (unitR (normS (tv f.tri))).1 = faceU f := rfl
 rw [e] at g
 generalize faceU f = U at *
 generalize Ψ .cr ((unitR (normS (tv f.tri))).2 * (1 / 2)) = A at *
 generalize (unitS (normS (tv f.tri))).isSome = ok at *
 exact rq trivial
theorem mat15_good (s : ScL) {MD FD : List D} (hD : ScD s MD FD) {face mi : Nat} {f : FaceL} {m : MatL} (hf : s.faces[face]? = some f) (hm : s.mats[mi]? = some m) (hfm : f.mat = Ω .ci mi) :
  Good P F.penumbraref15_Mat [.d (.agg (dSc Ψ MD FD s)), .d (.i .i64 (Ω .ci face))] [] (.d (.agg (dMat Ψ m))) [] := by
 refine G.penumbraref15_Mat fun C C2 hC hC2 => ?_
 have x1 := hD.f face f hf
 have x2 := hD.m mi m hm
 obtain ⟨ft, fm⟩ := f
 simp only at hfm
 subst hfm
 exact rq trivial
theorem ofm13_good : Good P F.penumbraref03_Of [.d (.i .i64 (-1)), .d (.i .i64 1)] [] (.d (.agg (dR Ψ (Ψ .cr (-1))))) [] := by
 have g := of3_good (-1) 1 (by omega) (by omega) (by omega) (by omega)
 have e1 : ((-1 : Int) : Rat) / ((1 : Int) : Rat) = -1 := by
  have h1 : ((1 : Int) : Rat) = 1 := rfl
  have h2 : ((-1 : Int) : Rat) = -1 := rfl
  rw [h1, h2]; grind
 rw [e1] at g
 exact g
theorem bend15_good (s : ScL) {MD FD : List D} (hD : ScD s MD FD) {face mi bin : Nat} {f : FaceL} {m : MatL} (hf : s.faces[face]? = some f) (hm : s.mats[mi]? = some m) (hfm : f.mat = Ω .ci mi) (hbin : bin < s.waves.length)
  (ha : Rn 2 m.a) (hb : Rn 2 m.b) (hw : ∀ r, r ∈ s.waves → Rn 2 r) (hn : Tn 2 f.tri) (d : VL) {k : Nat} (hd : Vn k d) (hk0 : 0 < k) (hk : k < 8589934590) :
  Good P F.penumbraref15_Bend [.d (.agg (dSc Ψ MD FD s)), .d (.i .i64 (Ω .ci face)), .d (.i .i64 (Ω .ci bin)), .d (.agg (dV Ψ d))] []
   (.tup [.d (.agg (dR Ψ (Ψ .cr ((bendM s.waves m bin (decide (vdot (vv d) (vv (faceU f)) < 0))).getD 0)))), .d (.b (bendM s.waves m bin (decide (vdot (vv d) (vv (faceU f)) < 0))).isSome)]) [] := by
 refine G.penumbraref15_Bend fun C C2 hC hC2 => ?_
 have g0 := mat15_good s hD hf hm hfm
 have gN := normal15_good s hD hf hn
 have x1 := hD.f face f hf
 have ge := eta9_good s hD hm (List.getElem?_eq_getElem hbin) ha hb (hw _ (List.getElem_mem hbin)) (by omega) (by omega)
 have qe := eta_n (s := s) (m := m) (bin := bin) ha hb hw (by omega)
 have g1 := ofm13_good
 have g2 := one3_good
 have g3 := zero3_good
 have pu : Pn 150 (vv (faceU f)) := by
  unfold faceU
  rw [vv_cV]
  exact (unit_n (Pn_norm (T3n hn (by omega)) (by omega)) (by omega)).1
 have gdot := dot5_good d (faceU f) hd (k := 150) (by unfold faceU at pu ⊢; rw [vv_cV] at pu; exact Vn_cV pu) hk0 (by omega) hk (by omega)
 have qd := Qn_dot (Pn_vv hd hk0) pu (by omega)
 have gs := sign3_good (Ψ .cr (vdot (vv d) (vv (faceU f)))) (Rn_cr.2 qd) (by omega)
 rw [rv_cr] at gs
 have qf := @qs_neg (vdot (vv d) (vv (faceU f)))
 have gd := over3_good (Ψ .cr 1) (Ψ .cr ((etaM s.waves m bin).getD 0)) (Rn_cr.2 Qn_one') (Rn_cr.2 qe) (by omega) (by omega)
 rw [rv_cr, rv_cr] at gd
 unfold bendM
 generalize (etaM s.waves m bin).getD 0 = e at *
 generalize (etaM s.waves m bin).isSome = eo at *
 generalize decide (vdot (vv d) (vv (faceU f)) < 0) = front at *
 generalize Ψ .sI (vdot (vv d) (vv (faceU f))) = sg at *
 generalize Ψ .cr (vdot (vv d) (vv (faceU f))) = dd at *
 clear qe hD qd pu
 generalize faceU f = U at *
 obtain ⟨ft, fm⟩ := f
 simp only at hfm
 subst hfm
 by_cases h1 : m.kind = 1
 ·rw [if_pos h1]
  have q1 : Ω .eq m.kind 1 = true := eq_true'.2 h1
  simp only [Option.getD_some, Option.isSome_some]
  generalize Ψ .cr (-1) = M1 at *
  exact rq trivial
 rw [if_neg h1]
 have q1 : Ω .eq m.kind 1 = false := eq_false'.2 h1
 by_cases h2 : m.kind = 2
 ·rw [if_pos h2]
  have q2 : Ω .ne m.kind 2 = false := ne_false'.2 h2
  simp only [Option.getD_some, Option.isSome_some]
  cases front with
  | true =>
   simp only [if_true]
   generalize Ψ .cr e = E at *
   exact rq trivial
  | false =>
   simp only [Bool.false_eq_true, if_false]
   generalize Ψ .cr (1 / e) = E1 at *
   generalize Ψ .cr e = E at *
   generalize Ψ .cr 1 = N1 at *
   exact rq trivial
 ·rw [if_neg h2]
  have q2 : Ω .ne m.kind 2 = true := ne_true'.2 h2
  simp only [Option.getD_none, Option.isSome_none]
  generalize Ψ .cr 0 = N0 at *
  exact rq trivial
end Go.K.S
end
section
namespace Go.K
open Go
def wayS (F : Fcs) : Nat → Lk → List V3 → List V3
 | n, l, ps => match F.near l.p l.dir with
  | none => ps
  | some (f, s) => match F.bend f l.dir with
   | none => ps ++ [vadd l.p (vmul s l.dir)]
   | some k => match n with
    | 0 => ps
    | n + 1 => wayS F n (hopS F l f s k) (ps ++ [vadd l.p (vmul s l.dir)])
def ptsD (l : List V3) : List D := Ψ .dVs (l.map (Ψ .cV))
theorem ptsD_snoc (l : List V3) (p : V3) : Ω .scat (ptsD l) [.agg (dV Ψ (Ψ .cV p))] = ptsD (l ++ [p]) := by
 unfold ptsD
 rw [List.map_append, ← scat_dVs']; rfl
theorem slen_ptsD (l : List V3) : Ω .slen (ptsD l) = l.length := by unfold ptsD; rw [slen_dVs, List.length_map]
def ptsR (s : ScL) (o d : V3) (bin : Int) : List V3 := match followR s o d bin with
 | none => []
 | some _ => wayS (fcsOf s bin.toNat) 8 (lk0 o d) [o]
end Go.K
namespace Go.K.S
open Go Go.K
theorem follow15_good (s : ScL) {MD FD : List D} (hD : ScD s MD FD) {k : Nat} (hs : Scn k s) (hk0 : 0 < k) (hk : k < 134217728) (o d : VL) {K p0 e0 gr : Nat} (hG : 2 * e0 + 20000 ≤ gr) (ho : Vn K o) (hd : Vn K d) (hK : K < 137438953472) (cp : Cn p0 (vv o)) (ce : Cn e0 (vv d))
  (bin : Int) (hp0 : p0 + 9 * gr < 67000000) (hm0 : mvB p0 gr 7 < 530000000) :
  Good P F.penumbraref15_Follow [.d (.agg (dSc Ψ MD FD s)), .d (.agg (dV Ψ o)), .d (.agg (dV Ψ d)), .d (.i .i64 bin)] []
   (.tup [.d (.agg (dL Ψ (lkL (followR s (vv o) (vv d) bin)))), .d (.sl (ptsD (ptsR s (vv o) (vv d) bin))), .d (.b (followR s (vv o) (vv d) bin).isSome)]) [] := by
 refine G.penumbraref15_Follow fun C C2 hC hC2 => ?_
 have gck := check9_good s hD hs hk0 hk
 by_cases hc : checkS s = 0
 rotate_left
 ·have e : followR s (vv o) (vv d) bin = none := by unfold followR; rw [if_neg (fun h => hc h.1)]
  have e2 : ptsR s (vv o) (vv d) bin = [] := by unfold ptsR; rw [e]
  rw [e, e2]
  have q : Ω .ne (checkS s) 0 = true := ne_true'.2 hc
  generalize checkS s = c at *
  first | exact rq (Q := True) trivial | (refine rq ?_; rfl)
 rw [hc] at gck
 have qc : Ω .ne 0 0 = false := rfl
 have ok := scOk_of hc
 by_cases h0 : 0 ≤ bin
 rotate_left
 ·have e : followR s (vv o) (vv d) bin = none := by unfold followR; rw [if_neg (fun h => h0 h.2.1)]
  have e2 : ptsR s (vv o) (vv d) bin = [] := by unfold ptsR; rw [e]
  rw [e, e2]
  have q : Ω .lt bin 0 = true := lt_true.2 (by omega)
  first | exact rq (Q := True) trivial | (refine rq ?_; rfl)
 have q1 : Ω .lt bin 0 = false := lt_false.2 h0
 by_cases h1 : bin < s.waves.length
 rotate_left
 ·have e : followR s (vv o) (vv d) bin = none := by unfold followR; rw [if_neg (fun h => h1 h.2.2)]
  have e2 : ptsR s (vv o) (vv d) bin = [] := by unfold ptsR; rw [e]
  rw [e, e2]
  have q : Ω .le (Ω .ci s.waves.length) bin = true := le_true.2 (by rw [w_ci]; omega)
  first | exact rq (Q := True) trivial | (refine rq ?_; rfl)
 have q2 : Ω .le (Ω .ci s.waves.length) bin = false := le_false.2 (by rw [w_ci]; omega)
 have e : followR s (vv o) (vv d) bin = followS (fcsOf s bin.toNat) 8 (lk0 (vv o) (vv d)) := by unfold followR; rw [if_pos ⟨hc, h0, h1⟩]
 have e' : ptsR s (vv o) (vv d) bin = match followS (fcsOf s bin.toNat) 8 (lk0 (vv o) (vv d)) with | none => [] | some _ => wayS (fcsOf s bin.toNat) 8 (lk0 (vv o) (vv d)) [vv o] := by unfold ptsR; rw [e]
 rw [e', e]
 obtain ⟨bn, rfl⟩ : ∃ bn : Nat, bin = Ω .ci bn := ⟨bin.toNat, by rw [w_ci]; omega⟩
 have hb : bn < s.waves.length := by rw [w_ci] at h1; omega
 have hbn : (Ω .ci bn).toNat = bn := by rw [w_ci]; omega
 rw [hbn]
 clear e e' hbn h0 h1 hc
 have f2 := ok.f2
 have gt := tris15_good s hD f2
 have H : TriH (trisA s) (trisD (trisA s)) := triH_map (by rw [trisA_len]; omega)
 have htn : ∀ t, t ∈ trisA s → Tn 2 t := fun t ht => by
  obtain ⟨f, hf, rfl⟩ := List.mem_map.1 ht
  exact ok.n.fv f (List.mem_of_mem_take hf)
 have g1 := read5_good o ho hK
 have g2 := read5_good d hd hK
 have g3 := ident7_good
 have g4 := one3_good
 have nF := n_F ok bn
 obtain ⟨M7, hM7⟩ : ∃ M, M = mvB p0 gr 7 := ⟨_, rfl⟩
 have hmvB : ∀ i, i ≤ 7 → mvB p0 gr i ≤ M7 := fun i hi => by
  rw [hM7]
  rcases (show i = 0 ∨ i = 1 ∨ i = 2 ∨ i = 3 ∨ i = 4 ∨ i = 5 ∨ i = 6 ∨ i = 7 by omega) with rfl | rfl | rfl | rfl | rfl | rfl | rfl | rfl <;> simp only [mvB] <;> omega
 rw [← hM7] at hm0
 clear hM7
 obtain ⟨R, hR⟩ : ∃ R, R = followS (fcsOf s bn) 8 (lk0 (vv o) (vv d)) := ⟨_, rfl⟩
 obtain ⟨W, hW⟩ : ∃ W, W = wayS (fcsOf s bn) 8 (lk0 (vv o) (vv d)) [vv o] := ⟨_, rfl⟩
 rw [← hR, ← hW]
 have e1 : Ψ .cV (vv o) = Ψ .cV (lk0 (vv o) (vv d)).p := rfl
 have e2 : Ψ .cV (vv d) = Ψ .cV (lk0 (vv o) (vv d)).dir := rfl
 have e3 : cMap Ψ idM = cMap Ψ (lk0 (vv o) (vv d)).map := rfl
 have e4 : Ψ .cr 1 = Ψ .cr (lk0 (vv o) (vv d)).gain := rfl
 have e5 : oD (lk0 (vv o) (vv d)).hops = [] := rfl
 have e6 : ptsD [vv o] = [.agg (dV Ψ (Ψ .cV (lk0 (vv o) (vv d)).p))] := rfl
 have hN0 : LkN p0 e0 gr 0 (lk0 (vv o) (vv d)) := LkN.start cp ce
 have hl0 : (lk0 (vv o) (vv d)).hops.length = 0 := rfl
 rw [e1] at g1
 rw [e2] at g2
 rw [e3] at g3
 have g4' := g4
 rw [e4] at g4'
 clear e1 e2 e3 e4 cp ce
 have hpl : [vv o].length = 1 := rfl
 generalize [vv o] = ps0 at *
 generalize lk0 (vv o) (vv d) = l0 at *
 have gN : ∀ (i : Nat) (l : Lk), i ≤ 8 → LkN p0 e0 gr i l → Good P F.penumbraref12_Nearest [.d (.sl (trisD (trisA s))), .d (.agg (dV Ψ (Ψ .cV l.p))), .d (.agg (dV Ψ (Ψ .cV l.dir)))] []
    (.tup [.d (.i .i64 (firstS (Ψ .cV l.p) (Ψ .cV l.dir) (trisA s)).best), .d (.agg (dM Ψ (Ψ .cM (firstS (Ψ .cV l.p) (Ψ .cV l.dir) (trisA s)).m))), .d (.b (decide (0 ≤ (firstS (Ψ .cV l.p) (Ψ .cV l.dir) (trisA s)).best)))]) [] := fun i l hi hN => by
  have hpi : i * gr ≤ 8 * gr := Nat.mul_le_mul_right _ hi
  exact nearest12_good H (Ψ .cV l.p) (Ψ .cV l.dir) (k := p0 + 9 * gr) (Vn_cV (hN.p.size.mono (by omega))) (Vn_cV (hN.d.size.mono (by omega))) (fun t ht => (htn t ht).mono (by omega)) (by omega) (by omega)
 have gM : ∀ (i : Nat) (l : Lk) (f : Nat) (t : Rat), i ≤ 8 → LkN p0 e0 gr i l → nearF s l.p l.dir = some (f, t) → ∃ fc m, s.faces[f]? = some fc ∧ f < s.faces.length ∧ matF s f = some m ∧
   Good P F.penumbraref08_At [.d (.agg (dV Ψ (Ψ .cV l.p))), .d (.agg (dV Ψ (Ψ .cV l.dir))), .d (.agg (dR Ψ (Ψ .cr t)))] [] (.d (.agg (dV Ψ (Ψ .cV (vadd l.p (vmul t l.dir)))))) [] ∧
   Good P F.penumbraref15_Bend [.d (.agg (dSc Ψ MD FD s)), .d (.i .i64 (Ω .ci f)), .d (.i .i64 (Ω .ci bn)), .d (.agg (dV Ψ (Ψ .cV l.dir)))] []
    (.tup [.d (.agg (dR Ψ (Ψ .cr ((bendM s.waves m bn (decide (vdot l.dir (unitF s f) < 0))).getD 0)))), .d (.b (bendM s.waves m bn (decide (vdot l.dir (unitF s f) < 0))).isSome)]) [] ∧
   Good P F.penumbraref15_Normal [.d (.agg (dSc Ψ MD FD s)), .d (.i .i64 (Ω .ci f))] [] (.d (.agg (dV Ψ (faceU fc)))) [] ∧
   Good P F.penumbraref15_Mat [.d (.agg (dSc Ψ MD FD s)), .d (.i .i64 (Ω .ci f))] [] (.d (.agg (dMat Ψ m))) [] := fun i l f t hi hN hn => by
  have hpi : i * gr ≤ 8 * gr := Nat.mul_le_mul_right _ hi
  obtain ⟨hf, _⟩ := (near_F s bn).some _ _ _ _ hn
  obtain ⟨fc, m, h1, h2, h3, h4⟩ := matF_some ok hf
  have ct := (nF.len _ _ _ _ _ _ hn hN.p hN.d).size
  have pp := hN.p.size
  have pd := hN.d.size
  have ga := at8_good (Ψ .cV l.p) (Ψ .cV l.dir) (Ψ .cr t) (k := 2 * (p0 + 9 * gr)) (Vn_cV (pp.mono (by omega))) (Vn_cV (pd.mono (by omega))) (Rn_cr.2 (ct.mono (by omega))) (by omega) (by omega)
  rw [vv_cV, vv_cV, rv_cr] at ga
  have eu : vv (faceU fc) = unitF s f := by unfold unitF faceU; rw [h1, vv_cV]
  have hv := ok.n.mv m (List.mem_of_getElem? h2)
  have htf := ok.n.fv fc (List.mem_of_getElem? h1)
  have gb := bend15_good s hD h1 h2 h3 hb hv.2.1 hv.2.2 ok.n.wv htf (Ψ .cV l.dir) (Vn_cV pd) (by omega) (by omega)
  rw [vv_cV, eu] at gb
  exact ⟨fc, m, h1, hf, h4, ga, gb, normal15_good s hD h1 htf, mat15_good s hD h1 h2 h3⟩
 have gH : ∀ (i : Nat) (l : Lk) (f : Nat) (t k : Rat) (fc : FaceL) (m : MatL), i ≤ 7 → LkN p0 e0 gr i l → nearF s l.p l.dir = some (f, t) → s.faces[f]? = some fc → matF s f = some m → bendM s.waves m bn (decide (vdot l.dir (unitF s f) < 0)) = some k →
   LkN p0 e0 gr (i + 1) (hopS (fcsOf s bn) l f t k) ∧ (∃ r, Ω .sget (Ψ .dRs m.vals) bn = some (.agg (dR Ψ r)) ∧ Good P F.penumbraref03_Mul [.d (.agg (dR Ψ (Ψ .cr l.gain))), .d (.agg (dR Ψ r))] [] (.d (.agg (dR Ψ (Ψ .cr (hopS (fcsOf s bn) l f t k).gain)))) []) ∧
   Good P F.penumbraref03_Over [.d (.agg (dR Ψ (Ψ .cr 1))), .d (.agg (dR Ψ (Ψ .cr k)))] [] (.d (.agg (dR Ψ (Ψ .cr (1 / k))))) [] ∧
   (∃ A, Good P F.penumbraref07_Stretch [.d (.agg (dV Ψ (Ψ .cV (vadd l.p (vmul t l.dir))))), .d (.agg (dV Ψ (faceU fc))), .d (.agg (dR Ψ (Ψ .cr k)))] [] (.d (.agg (dMap Ψ A))) [] ∧ Good P F.penumbraref07_Turn [.d (.agg (dMap Ψ A)), .d (.agg (dV Ψ (Ψ .cV l.dir)))] [] (.d (.agg (dV Ψ (Ψ .cV (hopS (fcsOf s bn) l f t k).dir)))) []) ∧
   (∃ A, Good P F.penumbraref07_Stretch [.d (.agg (dV Ψ (Ψ .cV (vadd l.p (vmul t l.dir))))), .d (.agg (dV Ψ (faceU fc))), .d (.agg (dR Ψ (Ψ .cr (1 / k))))] [] (.d (.agg (dMap Ψ A))) [] ∧ Good P F.penumbraref07_Then [.d (.agg (dMap Ψ A)), .d (.agg (dMap Ψ (cMap Ψ l.map)))] [] (.d (.agg (dMap Ψ (cMap Ψ (hopS (fcsOf s bn) l f t k).map)))) []) := by
  intro i l f t k fc m hi hN hn hfc hm hbk
  have hpi : (i + 1) * gr ≤ 8 * gr := Nat.mul_le_mul_right _ (by omega)
  have hb' : (fcsOf s bn).bend f l.dir = some k := by
   show (match matF s f with | some m => bendM s.waves m bn (decide (vdot l.dir (unitF s f) < 0)) | none => none) = some k
   rw [hm]; exact hbk
  have hmm := matF_mem hm
  have hvl : m.vals.length = s.waves.length := by
   have h := ok.mb m hmm
   unfold matB at h
   simp only [Bool.and_eq_true, decide_eq_true_eq] at h
   exact h.1.2
  have hr : m.vals[bn]? = some (m.vals[bn]'(by omega)) := List.getElem?_eq_getElem (by omega)
  have hrn := (ok.n.mv m hmm).1 _ (List.mem_of_getElem? hr)
  have eu : vv (faceU fc) = unitF s f := by unfold unitF faceU; rw [hfc, vv_cV]
  have pu : Vn 150 (faceU fc) := by
   have := unitF_n ok f
   rw [← eu] at this
   unfold faceU at this ⊢
   rw [vv_cV] at this
   exact Vn_cV this
  obtain ⟨b1, b2⟩ := bend_cs nF hb'
  have ck := nF.bend _ _ _ hb'
  have qk := ck.size
  have qk' := ck.inv'.size
  have cu := nF.unit f
  have hp' := hN.at nF hG (by omega) hn
  have pp' := hp'.size
  have hat : ∀ (r : Rat), Qn 13 r → Cs 14 (r - 1) → ∃ A, A = cMap Ψ (stretchS (vadd l.p (vmul t l.dir)) (unitF s f) r) ∧ Mpn (p0 + 9 * gr) A ∧
    Good P F.penumbraref07_Stretch [.d (.agg (dV Ψ (Ψ .cV (vadd l.p (vmul t l.dir))))), .d (.agg (dV Ψ (faceU fc))), .d (.agg (dR Ψ (Ψ .cr r)))] [] (.d (.agg (dMap Ψ A))) [] := fun r hr hr2 => by
   have g := stretch7_good (Ψ .cV (vadd l.p (vmul t l.dir))) (faceU fc) (Ψ .cr r) (k := p0 + 9 * gr) (Vn_cV (pp'.mono (by omega))) (pu.mono (by omega)) (Rn_cr.2 (hr.mono (by omega))) (by omega) (by omega)
   rw [vv_cV, rv_cr, eu] at g
   have c1 := CM.stretch (p := vadd l.p (vmul t l.dir)) hr2 cu
   have c2 := Cn.move hr2 cu hp'
   exact ⟨_, rfl, Mpn_c ⟨c1.x.size.mono (by omega), c1.y.size.mono (by omega), c1.z.size.mono (by omega), c2.size.mono (by omega)⟩, g⟩
  obtain ⟨A1, eA1, nA1, gA1⟩ := hat k qk b1
  obtain ⟨A2, eA2, nA2, gA2⟩ := hat (1 / k) qk' b2
  have hmv := hmvB i hi
  refine ⟨hN.hop nF hG (by omega) hn hb', ⟨_, hx_dRs hr, ?_⟩, ?_, ⟨A1, gA1, ?_⟩, ⟨A2, gA2, ?_⟩⟩
  ·have g := mul3_good (Ψ .cr l.gain) (m.vals[bn]'(by omega)) (j := 2 * i + 2) (k := 2) (Rn_cr.2 (hN.g.mono (by omega))) hrn (by omega) (by omega)
   rw [rv_cr] at g
   have e : (hopS (fcsOf s bn) l f t k).gain = l.gain * rv (m.vals[bn]'(by omega)) := by
    show l.gain * (match matF s f with | some m => (match m.vals[bn]? with | some r => rv r | none => 0) | none => 0) = _
    rw [hm]
    simp only
    rw [hr]
   rw [e]
   exact g
  ·have g := over3_good (Ψ .cr 1) (Ψ .cr k) (Rn_cr.2 Qn_one') (Rn_cr.2 qk) (by omega) (by omega)
   rw [rv_cr, rv_cr] at g
   exact g
  ·have g := turn7_good A1 (Ψ .cV l.dir) nA1 (Vn_cV (hN.d.size.mono (by omega))) (by omega) (by omega)
   rw [vv_cV, eA1, mv_cMap, ← eA1] at g
   exact g
  ·have nM : Mpn 530000001 (cMap Ψ l.map) := Mpn_c ⟨hN.m.x.size.mono (by omega), hN.m.y.size.mono (by omega), hN.m.z.size.mono (by omega), hN.v.size.mono (by omega)⟩
   have g := then7_good A2 (cMap Ψ l.map) (nA2.mono (by omega)) nM (by omega) (by omega)
   rw [mv_cMap, eA2, mv_cMap, ← eA2] at g
   exact g
 have g4h : Hid _ := ⟨g4⟩
 clear H htn hmvB nF g4 ok
 have hO := oD_ok
 have hP := ptsD_snoc
 have hPl := slen_ptsD
 have hps0 : ptsD [] = [] := rfl
 generalize trisD (trisA s) = TD at *
 unfold dL
 generalize oD = OO at *
 have hO0 : OO [] = [] := hO.nil
 generalize ptsD = PP at *
 refine rq ?_
 refine LoopG.introB (σ := Lk × List V3) [.cell 1407 19 900001 T.int 1] [3, 4, 8, 11, 12, 13] [1050, 1055, 1056, 1057, 1058]
  (fun l => [.d (.i .i64 (Ω .ci bn)), .ptr 1050 0, .ptr 1055 0, .d (.sl TD), .ptr 1056 0, .own 1058 9])
  (fun l => [.var ((dSc Ψ MD FD s).map V.d), .var lkZ, .var (lkV Ψ 0 (.own 1057 1) l.1), .row true T.int 1 (OO l.1.hops), .row true T.api_Vec 9 (PP l.2)])
  (fun l => l.1.hops.length ≤ 8 ∧ LkN p0 e0 gr l.1.hops.length l.1 ∧ R = followS (fcsOf s bn) (8 - l.1.hops.length) l.1 ∧ W = wayS (fcsOf s bn) (8 - l.1.hops.length) l.1 l.2 ∧ l.2.length ≤ l.1.hops.length + 1)
  (fun l => 8 - l.1.hops.length) (l0, ps0) [1000, 1003, 1407, 900001, 1502] ⟨by simp only; omega, by simp only; rw [hl0]; exact hN0, by simp only; rw [hl0]; exact hR, by simp only; rw [hl0]; exact hW, by simp only; omega⟩ ⟨rfl, rfl, (by simp only; rw [e5, e6]; rfl)⟩ ?_
 rintro ⟨l, ps⟩ ⟨hi, hN, hRl, hWl, hpsl⟩
 simp only at hi hN hRl hWl hpsl
 have g4 := g4h.out
 have gn := gN l.hops.length l hi hN
 have gm := fun f t => gM l.hops.length l f t hi hN
 have gh := fun f t k fc m (h : l.hops.length ≤ 7) => gH l.hops.length l f t k fc m h hN
 rw [followS] at hRl
 rw [wayS] at hWl
 have hnear : (fcsOf s bn).near l.p l.dir = nearF s l.p l.dir := rfl
 rw [hnear] at hRl hWl
 clear hnear
 have hol := hO.len l.hops
 have hoc := hO.cat l.hops
 have hpl' := hPl ps
 have hpc := hP ps
 clear g1 g2 g3 g4' hR hW hN0 hl0 gH gM gN hO ho hd e5 e6 g4h hP hPl hpl
 cases hn : nearF s l.p l.dir with
 | none =>
  have h0 := nearF_none hn
  rw [hn] at hRl
  simp only at hRl
  subst hRl
  rw [decide_eq_false h0] at gn
  generalize (firstS (Ψ .cV l.p) (Ψ .cV l.dir) (trisA s)).best = b at *
  generalize Ψ .cM (firstS (Ψ .cV l.p) (Ψ .cV l.dir) (trisA s)).m = M at *
  clear gm gh
  simp only [lkL, Option.isSome_none]
  rw [hO0, hps0]
  first | exact rq (Q := True) trivial | (refine rq ?_; rfl)
 | some x =>
 obtain ⟨f, t⟩ := x
 obtain ⟨h0, h1, h2⟩ := nearF_some hn
 rw [hn] at hRl hWl
 simp only at hRl hWl
 rw [decide_eq_true h0, h1] at gn
 obtain ⟨fc, m, m1, m3, m4, ga, gb, gnm, gmat⟩ := gm f t hn
 have hbd : (fcsOf s bn).bend f l.dir = bendM s.waves m bn (decide (vdot l.dir (unitF s f) < 0)) := by
  show (match matF s f with | some m => bendM s.waves m bn (decide (vdot l.dir (unitF s f) < 0)) | none => none) = _
  rw [m4]
 rw [hbd] at hRl hWl
 have gk := fun k h h2 => gh f t k fc m h hn m1 m4 h2
 have gn' : Good P F.penumbraref12_Nearest [.d (.sl TD), .d (.agg (dV Ψ (Ψ .cV l.p))), .d (.agg (dV Ψ (Ψ .cV l.dir)))] []
   (.tup [.d (.i .i64 (Ω .ci f)), .d (.agg (dM Ψ ⟨Ψ .cr t, (Ψ .cM (firstS (Ψ .cV l.p) (Ψ .cV l.dir) (trisA s)).m).u, (Ψ .cM (firstS (Ψ .cV l.p) (Ψ .cV l.dir) (trisA s)).m).v⟩)), .d (.b true)]) [] := by
  rw [← h2]; exact gn
 clear gn hbd h0 h1 h2 gm gh hn m1 m4
 generalize (Ψ .cM (firstS (Ψ .cV l.p) (Ψ .cV l.dir) (trisA s)).m).u = mu at *
 generalize (Ψ .cM (firstS (Ψ .cV l.p) (Ψ .cV l.dir) (trisA s)).m).v = mw at *
 generalize decide (vdot l.dir (unitF s f) < 0) = fr at *
 generalize faceU fc = U at *
 have hpc' := hpc (vadd l.p (vmul t l.dir))
 have hps2 : (ps ++ [vadd l.p (vmul t l.dir)]).length = ps.length + 1 := by rw [List.length_append]; rfl
 cases hbb : bendM s.waves m bn fr with
 | none =>
  rw [hbb] at gb hRl hWl
  simp only [Option.getD_none, Option.isSome_none] at gb
  simp only at hRl hWl
  subst hRl
  clear gk
  generalize Ψ .cr 0 = N0 at *
  generalize Ψ .cr t = Tt at *
  simp only [lkL, Option.isSome_some]
  rw [hWl, ← hpc']
  clear hpc hpc' hWl
  generalize Ψ .cV (vadd l.p (vmul t l.dir)) = P2 at *
  generalize OO l.hops = HD at *
  generalize PP ps = PD at *
  first | exact rq (Q := True) trivial | (refine rq ?_; rfl)
 | some k =>
  rw [hbb] at gb hRl hWl
  simp only [Option.getD_some, Option.isSome_some] at gb
  simp only at hRl hWl
  rcases Nat.lt_or_ge l.hops.length 8 with h8 | h8
  ·have q8 : Ω .eq (Ω .ci (Ω .slen (OO l.hops))) 8 = false := by rw [hol, q_eq]; exact decide_eq_false (by rw [w_ci]; omega)
   obtain ⟨hN', ⟨r, r1, r2⟩, gdiv, ⟨A1, a1, a2⟩, ⟨A2, b1, b2⟩⟩ := gk k (by omega) hbb
   have hh : (hopS (fcsOf s bn) l f t k).hops = l.hops ++ [f] := rfl
   have hhl : (hopS (fcsOf s bn) l f t k).hops.length = l.hops.length + 1 := by rw [hh, List.length_append]; rfl
   have hRn : R = followS (fcsOf s bn) (8 - (hopS (fcsOf s bn) l f t k).hops.length) (hopS (fcsOf s bn) l f t k) ∧ W = wayS (fcsOf s bn) (8 - (hopS (fcsOf s bn) l f t k).hops.length) (hopS (fcsOf s bn) l f t k) (ps ++ [vadd l.p (vmul t l.dir)]) := by
    rw [hRl, hWl, hhl]
    obtain ⟨n, hn⟩ : ∃ n, 8 - l.hops.length = n + 1 := ⟨7 - l.hops.length, by omega⟩
    rw [hn, show 8 - (l.hops.length + 1) = n by omega]
    exact ⟨rfl, rfl⟩
   have hoc := hoc f
   rw [← hh] at hoc
   have ep : vadd l.p (vmul t l.dir) = (hopS (fcsOf s bn) l f t k).p := rfl
   rw [ep] at ga a1 b1 hpc' hps2 hRn
   clear gk hRl hWl ep hpc
   generalize hopS (fcsOf s bn) l f t k = l' at *
   have h56 : Ω .slen (OO l.hops) + 1 ≤ 100 := by rw [hol]; omega
   have h57 : Ω .slen (PP ps) + 1 ≤ 100 := by rw [hpl']; omega
   generalize Ψ .cr k = Kk at *
   generalize Ψ .cr (1 / k) = Kj at *
   generalize Ψ .cr t = Tt at *
   refine rq ?_
   exact ⟨(l', ps ++ [l'.p]), [1050, 1055, 1056, 2904, 2003], ⟨by simp only; omega, by simp only; rw [hhl]; exact hN', hRn.1, hRn.2, by simp only; omega⟩, by simp only; omega, rfl, rfl, (by simp only; rw [← hoc, ← hpc']; rfl)⟩
  ·have q8 : Ω .eq (Ω .ci (Ω .slen (OO l.hops))) 8 = true := by rw [hol, q_eq]; exact decide_eq_true (by rw [w_ci]; omega)
   rw [show 8 - l.hops.length = 0 by omega] at hRl
   simp only at hRl
   subst hRl
   clear gk
   generalize Ψ .cr k = Kk at *
   generalize Ψ .cr t = Tt at *
   simp only [lkL, Option.isSome_none]
   rw [hO0, hps0]
   have h57 : Ω .slen (PP ps) + 1 ≤ 100 := by rw [hpl']; omega
   first | exact rq (Q := True) trivial | (refine rq ?_; rfl)
end Go.K.S
end
section
namespace Go.K
open Go
theorem fit_cr (q : Rat) (h : decide (q.num.natAbs < 18446744073709551616 ∧ q.den < 18446744073709551616) = true) : fitR (Ψ .cr q) = true := by
 obtain ⟨h1, h2⟩ := of_decide_eq_true h
 unfold fitR
 rw [rv_cr, decide_eq_true rfl, Bool.true_and]
 have e1 : nv (Ψ .cr q).num = q.num.natAbs := nv_cn _
 have e2 : nv (Ψ .cr q).den = q.den := nv_cn _
 rw [e1, e2, decide_eq_true (bl_le.2 h1), decide_eq_true (bl_le.2 h2)]
 rfl
theorem rsq_nat (x : Nat) : rsq (((x * x : Nat)) : Rat) = some (x : Rat) := by
 have h1 : (((x * x : Nat)) : Rat).num = ((x * x : Nat) : Int) := rfl
 have h2 : (((x * x : Nat)) : Rat).den = 1 := rfl
 unfold rsq
 rw [h1, h2, Int.natAbs_natCast, sq_self, show sq 1 = 1 from rfl]
 rw [if_neg (by
  rw [← Rat.not_le]
  intro c
  apply c
  rw [← Rat.num_nonneg, h1]
  omega), if_pos ⟨rfl, rfl⟩, Rat.mkRat_one]
 rfl
theorem unitS_of (x : Nat) (hx : x ≠ 0) (v n : V3) (h : vdot v v = ((x * x : Nat) : Rat)) (hn : vmul (1 / (x : Rat)) v = n) : unitS v = some (n, (x : Rat)) := by
 unfold unitS
 rw [h, rsq_nat]
 simp only
 rw [if_neg (fun c => hx (by
  have h2 : ((x : Rat)).num = 0 := by rw [c]; rfl
  have h3 : ((x : Rat)).num = (x : Int) := rfl
  omega)), hn]
theorem room_u0 : unitS ⟨0, 0, 729⟩ = some (⟨0, 0, 1⟩, ((729 : Nat) : Rat)) := unitS_of 729 (by omega) _ _ (by decide +kernel) (by decide +kernel)
theorem room_u1 : unitS ⟨0, 0, -729⟩ = some (⟨0, 0, -1⟩, ((729 : Nat) : Rat)) := unitS_of 729 (by omega) _ _ (by decide +kernel) (by decide +kernel)
theorem vv_rv3 (a b c : Int) : vv (rv3 a b c) = ⟨mkRat a 1, mkRat b 1, mkRat c 1⟩ := by unfold vv rv3; simp only [rv_cr]
theorem room_t0 : tv rFace0.tri = ⟨⟨-9, -9, 0⟩, ⟨18, -9, 0⟩, ⟨-9, 18, 0⟩⟩ := by
 unfold tv rFace0; simp only [vv_rv3]
 have e : ∀ a b c : V3, ∀ a' b' c' : V3, a = a' → b = b' → c = c' → (⟨a, b, c⟩ : T3) = ⟨a', b', c'⟩ := fun a b c a' b' c' h1 h2 h3 => by rw [h1, h2, h3]
 exact e _ _ _ _ _ _ (by decide +kernel) (by decide +kernel) (by decide +kernel)
theorem room_t1 : tv rFace1.tri = ⟨⟨-9, -9, 2⟩, ⟨-9, 18, 2⟩, ⟨18, -9, 2⟩⟩ := by
 unfold tv rFace1; simp only [vv_rv3]
 have e : ∀ a b c : V3, ∀ a' b' c' : V3, a = a' → b = b' → c = c' → (⟨a, b, c⟩ : T3) = ⟨a', b', c'⟩ := fun a b c a' b' c' h1 h2 h3 => by rw [h1, h2, h3]
 exact e _ _ _ _ _ _ (by decide +kernel) (by decide +kernel) (by decide +kernel)
theorem room_n0 : unitS (normS (tv rFace0.tri)) = some (⟨0, 0, 1⟩, ((729 : Nat) : Rat)) := by
 rw [room_t0, show normS ⟨⟨-9, -9, 0⟩, ⟨18, -9, 0⟩, ⟨-9, 18, 0⟩⟩ = ⟨0, 0, 729⟩ by decide +kernel]; exact room_u0
theorem room_n1 : unitS (normS (tv rFace1.tri)) = some (⟨0, 0, -1⟩, ((729 : Nat) : Rat)) := by
 rw [room_t1, show normS ⟨⟨-9, -9, 2⟩, ⟨-9, 18, 2⟩, ⟨18, -9, 2⟩⟩ = ⟨0, 0, -729⟩ by decide +kernel]; exact room_u1
theorem room_many : manyB roomS = true := by decide +kernel
theorem room_sizes : sizesS roomS = true := by
 have f1 := fit_cr (mkRat 1 1) (by decide +kernel)
 have f0 := fit_cr (mkRat 0 1) (by decide +kernel)
 have f2 := fit_cr (mkRat 2 1) (by decide +kernel)
 have f9 := fit_cr (mkRat (-9) 1) (by decide +kernel)
 have f18 := fit_cr (mkRat 18 1) (by decide +kernel)
 have f8 := fit_cr (mkRat 1 8) (by decide +kernel)
 have fh := fit_cr (mkRat 1 2) (by decide +kernel)
 have fz := fit_cr 0 (by decide +kernel)
 unfold sizesS
 simp only [roomS, rMat0, rMat1, rFace0, rFace1, rv3, fitM, fitF, fitV, List.all_cons, List.all_nil, f1, f0, f2, f9, f18, f8, fh, fz, Bool.and_true]
theorem room_waves : (roomS.waves.all fun x => decide (0 < rv x)) = true := by
 simp only [roomS, List.all_cons, List.all_nil, rv_cr, Bool.and_true]
 decide +kernel
theorem room_mats : roomS.mats.all (matB roomS.waves) = true := by
 simp only [roomS, rMat0, rMat1, List.all_cons, List.all_nil, matB, valsB, valB, etaM, List.zipIdx_cons, List.zipIdx_nil, rv_cr, List.length_cons, List.length_nil]
 simp
 decide +kernel
theorem room_face0 : faceB 2 rFace0 = true := by
 unfold faceB
 rw [room_n0]
 decide +kernel
theorem room_face1 : faceB 2 rFace1 = true := by
 unfold faceB
 rw [room_n1]
 decide +kernel
theorem room_faces : roomS.faces.all (faceB roomS.mats.length) = true := by
 show ([rFace0, rFace1] : List FaceL).all (faceB 2) = true
 rw [List.all_cons, List.all_cons, List.all_nil, room_face0, room_face1]
 rfl
theorem room_view : viewB roomS = true := by
 unfold viewB
 simp only [roomS, vv_rv3, rv_cr]
 decide +kernel
theorem check_of {s : ScL} (h1 : manyB s = true) (h2 : sizesS s = true) (h3 : (s.waves.all fun x => decide (0 < rv x)) = true) (h4 : s.mats.all (matB s.waves) = true) (h5 : s.faces.all (faceB s.mats.length) = true) (h6 : viewB s = true) : checkS s = 0 := by
 unfold checkS
 rw [h1, h2, h3, h4, h5, h6]
 rfl
theorem room_check : checkS roomS = 0 := check_of room_many room_sizes room_waves room_mats room_faces room_view
theorem room_tri0 : triF roomS 0 = ⟨⟨-9, -9, 0⟩, ⟨18, -9, 0⟩, ⟨-9, 18, 0⟩⟩ := room_t0
theorem room_tri1 : triF roomS 1 = ⟨⟨-9, -9, 2⟩, ⟨-9, 18, 2⟩, ⟨18, -9, 2⟩⟩ := room_t1
theorem unitF_face {s : ScL} {f : Nat} {fc : FaceL} (h : s.faces[f]? = some fc) : unitF s f = (unitR (normS (tv fc.tri))).1 := by
 unfold unitF; rw [h]
theorem unitR_of {v n : V3} {l : Rat} (h : unitS v = some (n, l)) : (unitR v).1 = n := by
 unfold unitR; rw [h]; rfl
theorem room_unit1 : unitF roomS 1 = ⟨0, 0, -1⟩ := (unitF_face (fc := rFace1) rfl).trans (unitR_of room_n1)
theorem room_scn : Scn 2 roomS := by
 have h := sc2_of room_sizes
 refine ⟨by decide, by decide, by decide, by decide, by decide, h.wv, by decide, fun m hm => ?_, by decide, fun f hf => ?_, h.e, h.l, h.hf⟩
 ·have hv := h.mv m hm
  have hm' : m = rMat0 ∨ m = rMat1 := by simpa [roomS] using hm
  rcases hm' with rfl | rfl
  ·exact ⟨by decide, by decide, by decide, hv.1, hv.2.1, hv.2.2⟩
  ·exact ⟨by decide, by decide, by decide, hv.1, hv.2.1, hv.2.2⟩
 ·have hv := h.fv f hf
  have hf' : f = rFace0 ∨ f = rFace1 := by simpa [roomS] using hf
  rcases hf' with rfl | rfl
  ·exact ⟨by decide, by decide, hv⟩
  ·exact ⟨by decide, by decide, hv⟩
theorem near_of {s : ScL} {bin : Nat} {o d : V3} {f : Nat} {m : M3} (hf : f < s.faces.length) (hm : hitS o d (triF s f) = some m) (hu : ∀ j, j < s.faces.length → j ≠ f → hitS o d (triF s j) = none) : (fcsOf s bin).near o d = some (f, m.s) :=
 near_is (near_F s bin) hf hm fun j m' hj hm' => by
  by_cases e : j = f
  ·exact .inr e
  ·rw [hu j hj e] at hm'; cases hm'
theorem near_no {s : ScL} {bin : Nat} {o d : V3} (hu : ∀ j, j < s.faces.length → hitS o d (triF s j) = none) : (fcsOf s bin).near o d = none := by
 cases h : (fcsOf s bin).near o d with
 | none => rfl
 | some x =>
  obtain ⟨f, t⟩ := x
  obtain ⟨hf, m, h1, _⟩ := (near_F s bin).some _ _ _ _ h
  rw [hu f hf] at h1; cases h1
theorem room2 {p : Nat → Prop} (h0 : p 0) (h1 : p 1) : ∀ j, j < roomS.faces.length → p j := fun j hj => by
 have : j < 2 := hj
 rcases (show j = 0 ∨ j = 1 by omega) with rfl | rfl <;> assumption
instance : DecidableEq M3 := fun _ _ => decidable_of_iff _ M3.ext_iff'.symm
def roomL : Lk := ⟨⟨3, 0, 0⟩, ⟨1, 0, -1⟩, [1], thenS (stretchS ⟨1, 0, 2⟩ ⟨0, 0, -1⟩ (1 / -1)) idM, 1 * mkRat 1 2⟩
theorem room_ray : followR roomS ⟨0, 0, 1⟩ ⟨1, 0, 1⟩ 0 = some (0, roomL) := by
 unfold followR
 rw [if_pos ⟨room_check, by omega, by decide⟩]
 show followS (fcsOf roomS 0) 8 (lk0 ⟨0, 0, 1⟩ ⟨1, 0, 1⟩) = _
 have n1 : (fcsOf roomS 0).near (lk0 ⟨0, 0, 1⟩ ⟨1, 0, 1⟩).p (lk0 ⟨0, 0, 1⟩ ⟨1, 0, 1⟩).dir = some (1, 1) := by
  have h1 : hitS ⟨0, 0, 1⟩ ⟨1, 0, 1⟩ (triF roomS 1) = some ⟨1, 10 / 27 - 1 / 27, 10 / 27⟩ := by rw [room_tri1]; decide +kernel
  have := near_of (s := roomS) (bin := 0) (f := 1) (by decide) h1 (room2 (p := fun j => j ≠ 1 → hitS ⟨0, 0, 1⟩ ⟨1, 0, 1⟩ (triF roomS j) = none) (fun _ => by rw [room_tri0]; decide +kernel) (fun h => absurd rfl h))
  exact this
 have b1 : (fcsOf roomS 0).bend 1 (lk0 ⟨0, 0, 1⟩ ⟨1, 0, 1⟩).dir = some (-1) := rfl
 rw [followS, n1]
 simp only
 rw [b1]
 simp only
 have e1 : hopS (fcsOf roomS 0) (lk0 ⟨0, 0, 1⟩ ⟨1, 0, 1⟩) 1 1 (-1) = ⟨⟨1, 0, 2⟩, ⟨1, 0, -1⟩, [1], thenS (stretchS ⟨1, 0, 2⟩ ⟨0, 0, -1⟩ (1 / -1)) idM, 1 * mkRat 1 2⟩ := by
  unfold hopS
  have p1 : vadd (lk0 ⟨0, 0, 1⟩ ⟨1, 0, 1⟩).p (vmul 1 (lk0 ⟨0, 0, 1⟩ ⟨1, 0, 1⟩).dir) = ⟨1, 0, 2⟩ := by decide +kernel
  have u1 : (fcsOf roomS 0).unit 1 = ⟨0, 0, -1⟩ := room_unit1
  have v1 : (fcsOf roomS 0).val 1 = mkRat 1 2 := rv_cr _
  rw [p1, u1, v1]
  have d1 : turnS (stretchS ⟨1, 0, 2⟩ ⟨0, 0, -1⟩ (-1)) (lk0 ⟨0, 0, 1⟩ ⟨1, 0, 1⟩).dir = ⟨1, 0, -1⟩ := by decide +kernel
  rw [d1]
  rfl
 rw [e1]
 have n2 : (fcsOf roomS 0).near ⟨1, 0, 2⟩ ⟨1, 0, -1⟩ = some (0, 2) := by
  have h1 : hitS ⟨1, 0, 2⟩ ⟨1, 0, -1⟩ (triF roomS 0) = some ⟨2, 12 / 27, 9 / 27⟩ := by rw [room_tri0]; decide +kernel
  exact near_of (s := roomS) (bin := 0) (f := 0) (by decide) h1 (room2 (p := fun j => j ≠ 0 → hitS ⟨1, 0, 2⟩ ⟨1, 0, -1⟩ (triF roomS j) = none) (fun h => absurd rfl h) (fun _ => by rw [room_tri1]; decide +kernel))
 have b2 : (fcsOf roomS 0).bend 0 ⟨1, 0, -1⟩ = none := rfl
 rw [followS]
 simp only
 rw [n2]
 simp only
 rw [b2]
 have p2 : vadd ⟨1, 0, 2⟩ (vmul 2 ⟨1, 0, -1⟩) = (⟨3, 0, 0⟩ : V3) := by decide +kernel
 simp only
 rw [p2]
 rfl
theorem room_no : followR roomS ⟨0, 0, 3⟩ ⟨0, 0, 1⟩ 0 = none := by
 unfold followR
 rw [if_pos ⟨room_check, by omega, by decide⟩]
 show followS (fcsOf roomS 0) 8 (lk0 ⟨0, 0, 3⟩ ⟨0, 0, 1⟩) = _
 rw [followS, near_no (s := roomS) (room2 (p := fun j => hitS (lk0 ⟨0, 0, 3⟩ ⟨0, 0, 1⟩).p (lk0 ⟨0, 0, 3⟩ ⟨0, 0, 1⟩).dir (triF roomS j) = none) (by rw [room_tri0]; decide +kernel) (by rw [room_tri1]; decide +kernel))]
theorem roomL_apply : applyS roomL.map roomL.p = ⟨3, 0, 4⟩ := by decide +kernel
theorem roomL_gain : roomL.gain = mkRat 1 2 := by decide +kernel
end Go.K
end
section
namespace Go.K
open Go
def rmC (ma fa : V) : Nat → List V
 | 0 => stf .nil ma fa z9c z9c 0 0 z3c false false false false
 | 1 => stf (.d (.sl (crsD [mkRat 1 1]))) ma fa z9c z9c 0 0 z3c true false false false
 | 2 => stf (.d (.sl (crsD [mkRat 1 1]))) ma fa ((dV Ψ (rv3 0 0 1)).map V.d) z9c 0 0 z3c true true false false
 | 3 => stf (.d (.sl (crsD [mkRat 1 1]))) ma fa ((dV Ψ (rv3 0 0 1)).map V.d) ((dV Ψ (rv3 0 0 1)).map V.d) 0 0 z3c true true true false
 | _ => stf (.d (.sl (crsD [mkRat 1 1]))) ma fa ((dV Ψ (rv3 0 0 1)).map V.d) ((dV Ψ (rv3 0 0 1)).map V.d) 1 1 ((dR Ψ (Ψ .cr (mkRat 1 1))).map V.d) true true true true
def rmM : Nat → List D
 | 0 => [] | 1 => [] | 2 => [] | 3 => [] | 4 => []
 | 5 => matsD [rMat0]
 | _ => matsD [rMat0, rMat1]
def rmF : Nat → List D
 | 0 => [] | 1 => [] | 2 => [] | 3 => [] | 4 => [] | 5 => [] | 6 => []
 | 7 => facesD [rFace0]
 | _ => facesD [rFace0, rFace1]
def rmZ : List V := .nil :: .nil :: .nil :: (z9c ++ z9c ++ .d (.i .i64 0) :: .d (.i .i64 0) :: z3c)
theorem roomT_lt : ∀ c, c ∈ roomT → c < 256 := by decide +kernel
theorem roomLs_lt : ∀ l, l ∈ roomLs → ∀ c, c ∈ l → c < 256 := by decide +kernel
end Go.K
namespace Go.K.S
open Go Go.K
theorem parse9_room : Good P F.penumbraref09_Parse [.d (.s (ofB roomT))] [] (.tup [.d (.agg (dSc Ψ (matsD roomS.mats) (facesD roomS.faces) roomS)), .d (.i .i64 0), .d (.i .i64 0)]) [] := by
 refine G.penumbraref09_Parse fun C C2 hC hC2 => ?_
 have hb := byt_ofB roomT_lt
 have hT : roomT.length < 1000 := by decide
 have hz : Ω .bsz (ofB roomT) = roomT.length := by rw [bsz_byt, hb]
 have q0 : Ω .lt 65536 (Ω .ci (Ω .bsz (ofB roomT))) = false := by rw [hz]; simp only [wz]; omega
 have gl := lines9_good (ofB roomT) (by rw [hb]; decide)
 rw [hb, room_lines] at gl
 have gw : ∀ j, j < 9 → ∃ B, Ω .sget (strsD roomLs) j = some (.s B) ∧ Good P F.penumbraref09_Words [.d (.s B)] [] (.d (.sl (strsD (roomW j)))) [] := fun j hj => by
  obtain ⟨l, hl⟩ : ∃ l, roomLs[j]? = some l := ⟨_, List.getElem?_eq_getElem hj⟩
  have hbl := byt_ofB (roomLs_lt l (List.mem_of_getElem? hl))
  have := words9_good (ofB l) (by
   rw [hbl]
   have : ∀ l, l ∈ roomLs → l.length < 1000000 := by decide +kernel
   exact this l (List.mem_of_getElem? hl))
  rw [hbl, room_words j hj l hl] at this
  exact ⟨ofB l, sget_strsD hl, this⟩
 have hll : Ω .slen (strsD roomLs) = 9 := by rw [slen_strsD]; rfl
 have gck := check9_good roomS (scD_of roomS) room_scn (by omega) (by omega)
 rw [room_check] at gck
 have gck' : Good P F.penumbraref09_Check [.d (.agg (.sl (crsD [mkRat 1 1]) :: .sl (matsD [rMat0, rMat1]) :: .sl (facesD [rFace0, rFace1]) :: (dV Ψ (rv3 0 0 1) ++ dV Ψ (rv3 0 0 1) ++ (.i .i64 1 :: .i .i64 1 :: dR Ψ (Ψ .cr (mkRat 1 1))))))] [] (.d (.i .i64 0)) [] := gck
 rw [show dSc Ψ (matsD roomS.mats) (facesD roomS.faces) roomS = (.sl (crsD [mkRat 1 1]) :: .sl (matsD [rMat0, rMat1]) :: .sl (facesD [rFace0, rFace1]) :: (dV Ψ (rv3 0 0 1) ++ dV Ψ (rv3 0 0 1) ++ (.i .i64 1 :: .i .i64 1 :: dR Ψ (Ψ .cr (mkRat 1 1))))) from rfl]
 clear gck
 have wl : ∀ j, Ω .slen (strsD (roomW j)) = (roomW j).length := fun j => slen_strsD _
 have wne : ∀ j, j < 8 → Ω .eq (Ω .ci (Ω .slen (strsD (roomW j)))) 0 = false := fun j hj => by
  rw [wl, q_eq]
  refine decide_eq_false ?_
  have : ∀ j, j < 8 → (roomW j).length ≠ 0 := by decide
  rw [w_ci]
  have := this j hj
  omega
 have w8 : Ω .eq (Ω .ci (Ω .slen (strsD (roomW 8)))) 0 = true := rfl
 have G0 := line0
 have G1 := line1
 have G2 := line2
 have G3 := line3
 have G4 := line4
 have G5 := line5
 have G6 := line6
 have G7 := line7
 generalize ofB roomT = RT at *
 generalize strsD roomLs = LD at *
 refine rt ?_
 refine LoopG.introB (σ := Nat) [.cell 1301 1 900001 T.api_Mat 8, .cell 1301 2 900002 T.api_Face 28] [2, 5, 6, 8] [1050, 1051, 1052, 1053]
  (fun i => [.ptr 1050 0, .ptr 1051 0, .d (.sl LD), .d (.i .i64 (Ω .ci i))])
  (fun i => [.var rmZ, .var (rmC (.own 1052 8) (.own 1053 28) i), .row true T.api_Mat 8 (rmM i), .row true T.api_Face 28 (rmF i)])
  (fun i => i ≤ 9) (fun i => 9 - i) 0 [1000, 1301, 900001, 900002] (Nat.zero_le _) ⟨rfl, rfl, rfl⟩ ?_
 intro j hj
 have hw := wrap_succ (n := j) (by omega)
 rcases Nat.lt_or_ge j 9 with hlt | hge
 ·obtain ⟨B, x1, x2⟩ := gw j hlt
  have q0 : Ω .lt (Ω .ci j) (Ω .ci (Ω .slen LD)) = true := by rw [hll]; simp only [wz]; omega
  have wn := wne j
  have gck := gck'
  clear gw wne gck'
  rcases (show j = 0 ∨ j = 1 ∨ j = 2 ∨ j = 3 ∨ j = 4 ∨ j = 5 ∨ j = 6 ∨ j = 7 ∨ j = 8 by omega) with rfl | rfl | rfl | rfl | rfl | rfl | rfl | rfl | rfl
  ·clear G1 G2 G3 G4 G5 G6 G7 gck
   simp only [rmC, rmM, rmF]
   have qw := wn (by omega)
   have x3 : Good P F.penumbraref09_Words [.d (.s B)] [] (.d (.sl (strsD roomW0))) [] := x2
   have qw' : Ω .eq (Ω .ci (Ω .slen (strsD roomW0))) 0 = false := qw
   clear x2 qw wn w8 wl
   generalize hWV : crsD [mkRat 1 1] = WV at *
   generalize hE : rv3 0 0 1 = E at *
   generalize hM1 : matsD [rMat0] = M1 at *
   generalize hM2 : matsD [rMat0, rMat1] = M2 at *
   generalize hF1 : facesD [rFace0] = F1 at *
   generalize hF2 : facesD [rFace0, rFace1] = F2 at *
   generalize strsD roomW0 = WD at *
   refine rt ?_
   rw [hw]
   subst hWV hE hM1 hM2 hF1 hF2
   exact ⟨1, [1050, 1051, 1052, 1053], by omega, by omega, rfl, rfl, rfl⟩
  ·clear G0 G2 G3 G4 G5 G6 G7 gck
   simp only [rmC, rmM, rmF]
   have qw := wn (by omega)
   have x3 : Good P F.penumbraref09_Words [.d (.s B)] [] (.d (.sl (strsD roomW1))) [] := x2
   have qw' : Ω .eq (Ω .ci (Ω .slen (strsD roomW1))) 0 = false := qw
   clear x2 qw wn w8 wl
   generalize hWV : crsD [mkRat 1 1] = WV at *
   generalize hE : rv3 0 0 1 = E at *
   generalize hM1 : matsD [rMat0] = M1 at *
   generalize hM2 : matsD [rMat0, rMat1] = M2 at *
   generalize hF1 : facesD [rFace0] = F1 at *
   generalize hF2 : facesD [rFace0, rFace1] = F2 at *
   generalize strsD roomW1 = WD at *
   refine rt ?_
   rw [hw]
   subst hWV hE hM1 hM2 hF1 hF2
   exact ⟨2, [1050, 1051, 1052, 1053], by omega, by omega, rfl, rfl, rfl⟩
  ·clear G0 G1 G3 G4 G5 G6 G7 gck
   simp only [rmC, rmM, rmF]
   have qw := wn (by omega)
   have x3 : Good P F.penumbraref09_Words [.d (.s B)] [] (.d (.sl (strsD roomW2))) [] := x2
   have qw' : Ω .eq (Ω .ci (Ω .slen (strsD roomW2))) 0 = false := qw
   clear x2 qw wn w8 wl
   generalize hWV : crsD [mkRat 1 1] = WV at *
   generalize hE : rv3 0 0 1 = E at *
   generalize hM1 : matsD [rMat0] = M1 at *
   generalize hM2 : matsD [rMat0, rMat1] = M2 at *
   generalize hF1 : facesD [rFace0] = F1 at *
   generalize hF2 : facesD [rFace0, rFace1] = F2 at *
   generalize strsD roomW2 = WD at *
   refine rt ?_
   rw [hw]
   subst hWV hE hM1 hM2 hF1 hF2
   exact ⟨3, [1050, 1051, 1052, 1053], by omega, by omega, rfl, rfl, rfl⟩
  ·clear G0 G1 G2 G4 G5 G6 G7 gck
   simp only [rmC, rmM, rmF]
   have qw := wn (by omega)
   have x3 : Good P F.penumbraref09_Words [.d (.s B)] [] (.d (.sl (strsD roomW3))) [] := x2
   have qw' : Ω .eq (Ω .ci (Ω .slen (strsD roomW3))) 0 = false := qw
   clear x2 qw wn w8 wl
   generalize hWV : crsD [mkRat 1 1] = WV at *
   generalize hE : rv3 0 0 1 = E at *
   generalize hM1 : matsD [rMat0] = M1 at *
   generalize hM2 : matsD [rMat0, rMat1] = M2 at *
   generalize hF1 : facesD [rFace0] = F1 at *
   generalize hF2 : facesD [rFace0, rFace1] = F2 at *
   generalize strsD roomW3 = WD at *
   refine rt ?_
   rw [hw]
   subst hWV hE hM1 hM2 hF1 hF2
   exact ⟨4, [1050, 1051, 1052, 1053], by omega, by omega, rfl, rfl, rfl⟩
  ·clear G0 G1 G2 G3 G5 G6 G7 gck
   simp only [rmC, rmM, rmF]
   have qw := wn (by omega)
   have x3 : Good P F.penumbraref09_Words [.d (.s B)] [] (.d (.sl (strsD roomW4))) [] := x2
   have qw' : Ω .eq (Ω .ci (Ω .slen (strsD roomW4))) 0 = false := qw
   clear x2 qw wn w8 wl
   generalize hWV : crsD [mkRat 1 1] = WV at *
   generalize hE : rv3 0 0 1 = E at *
   generalize hM1 : matsD [rMat0] = M1 at *
   generalize hM2 : matsD [rMat0, rMat1] = M2 at *
   generalize hF1 : facesD [rFace0] = F1 at *
   generalize hF2 : facesD [rFace0, rFace1] = F2 at *
   generalize strsD roomW4 = WD at *
   refine rt ?_
   rw [hw]
   subst hWV hE hM1 hM2 hF1 hF2
   exact ⟨5, [1050, 1051, 1016816, 1053], by omega, by omega, rfl, rfl, rfl⟩
  ·clear G0 G1 G2 G3 G4 G6 G7 gck
   simp only [rmC, rmM, rmF]
   have qw := wn (by omega)
   have x3 : Good P F.penumbraref09_Words [.d (.s B)] [] (.d (.sl (strsD roomW5))) [] := x2
   have qw' : Ω .eq (Ω .ci (Ω .slen (strsD roomW5))) 0 = false := qw
   clear x2 qw wn w8 wl
   generalize hWV : crsD [mkRat 1 1] = WV at *
   generalize hE : rv3 0 0 1 = E at *
   generalize hM1 : matsD [rMat0] = M1 at *
   generalize hM2 : matsD [rMat0, rMat1] = M2 at *
   generalize hF1 : facesD [rFace0] = F1 at *
   generalize hF2 : facesD [rFace0, rFace1] = F2 at *
   generalize strsD roomW5 = WD at *
   refine rt ?_
   rw [hw]
   subst hWV hE hM1 hM2 hF1 hF2
   exact ⟨6, [1050, 1051, 1016816, 1053], by omega, by omega, rfl, rfl, rfl⟩
  ·clear G0 G1 G2 G3 G4 G5 G7 gck
   simp only [rmC, rmM, rmF]
   have qw := wn (by omega)
   have x3 : Good P F.penumbraref09_Words [.d (.s B)] [] (.d (.sl (strsD roomW6))) [] := x2
   have qw' : Ω .eq (Ω .ci (Ω .slen (strsD roomW6))) 0 = false := qw
   clear x2 qw wn w8 wl
   generalize hWV : crsD [mkRat 1 1] = WV at *
   generalize hE : rv3 0 0 1 = E at *
   generalize hM1 : matsD [rMat0] = M1 at *
   generalize hM2 : matsD [rMat0, rMat1] = M2 at *
   generalize hF1 : facesD [rFace0] = F1 at *
   generalize hF2 : facesD [rFace0, rFace1] = F2 at *
   generalize strsD roomW6 = WD at *
   refine rt ?_
   rw [hw]
   subst hWV hE hM1 hM2 hF1 hF2
   exact ⟨7, [1050, 1051, 1052, 1016816], by omega, by omega, rfl, rfl, rfl⟩
  ·clear G0 G1 G2 G3 G4 G5 G6 gck
   simp only [rmC, rmM, rmF]
   have qw := wn (by omega)
   have x3 : Good P F.penumbraref09_Words [.d (.s B)] [] (.d (.sl (strsD roomW7))) [] := x2
   have qw' : Ω .eq (Ω .ci (Ω .slen (strsD roomW7))) 0 = false := qw
   clear x2 qw wn w8 wl
   generalize hWV : crsD [mkRat 1 1] = WV at *
   generalize hE : rv3 0 0 1 = E at *
   generalize hM1 : matsD [rMat0] = M1 at *
   generalize hM2 : matsD [rMat0, rMat1] = M2 at *
   generalize hF1 : facesD [rFace0] = F1 at *
   generalize hF2 : facesD [rFace0, rFace1] = F2 at *
   generalize strsD roomW7 = WD at *
   refine rt ?_
   rw [hw]
   subst hWV hE hM1 hM2 hF1 hF2
   exact ⟨8, [1050, 1051, 1052, 1016816], by omega, by omega, rfl, rfl, rfl⟩
  ·clear G0 G1 G2 G3 G4 G5 G6 G7 gck
   simp only [rmC, rmM, rmF]
   have qw := w8
   have x3 : Good P F.penumbraref09_Words [.d (.s B)] [] (.d (.sl (strsD roomW8))) [] := x2
   have qw' : Ω .eq (Ω .ci (Ω .slen (strsD roomW8))) 0 = true := qw
   clear x2 qw wn w8 wl
   generalize hWV : crsD [mkRat 1 1] = WV at *
   generalize hE : rv3 0 0 1 = E at *
   generalize hM1 : matsD [rMat0] = M1 at *
   generalize hM2 : matsD [rMat0, rMat1] = M2 at *
   generalize hF1 : facesD [rFace0] = F1 at *
   generalize hF2 : facesD [rFace0, rFace1] = F2 at *
   generalize strsD roomW8 = WD at *
   refine rt ?_
   rw [hw]
   subst hWV hE hM1 hM2 hF1 hF2
   exact ⟨9, [1050, 1051, 1052, 1053], by omega, by omega, rfl, rfl, rfl⟩
 ·obtain rfl : j = 9 := by omega
  have q0 : Ω .lt (Ω .ci 9) (Ω .ci (Ω .slen LD)) = false := by rw [hll]; rfl
  have q1 : Ω .ne 0 0 = false := rfl
  clear gw wne w8 wl G0 G1 G2 G3 G4 G5 G6 G7
  simp only [rmC, rmM, rmF]
  generalize hWV : crsD [mkRat 1 1] = WV at *
  generalize hE : rv3 0 0 1 = E at *
  generalize hM1 : matsD [rMat0] = M1 at *
  generalize hM2 : matsD [rMat0, rMat1] = M2 at *
  generalize hF1 : facesD [rFace0] = F1 at *
  generalize hF2 : facesD [rFace0, rFace1] = F2 at *
  exact rt trivial
end Go.K.S
end
section
namespace Go.K.S
open Go Go.K
theorem room15_good : Good P F.penumbralaw15_room [] [] (.d (.agg (dSc Ψ (matsD roomS.mats) (facesD roomS.faces) roomS))) [] := by
 refine G.penumbralaw15_room fun C C2 hC hC2 => ?_
 have g := parse9_room
 generalize matsD roomS.mats = MD at *
 generalize facesD roomS.faces = FD at *
 generalize roomS = s at *
 exact rq (Q := True) trivial
theorem room_follow (o d : V3) (ho : Pn 1 o) (hd : Pn 1 d) : Good P F.chain_Follow [.d (.agg (dSc Ψ (matsD roomS.mats) (facesD roomS.faces) roomS)), .d (.agg (dV Ψ (Ψ .cV o))), .d (.agg (dV Ψ (Ψ .cV d))), .d (.i .i64 0)] []
   (.tup [.d (lkD (followR roomS o d 0)), .d (.b (followR roomS o d 0).isSome)]) [] := by
 have hm : mvB 3 20010 7 < 714000000 := by simp only [mvB]; omega
 have h := follow_good roomS (scD_of roomS) room_scn (by omega) (by omega) (Ψ .cV o) (Ψ .cV d) (K := 1) (p0 := 3) (e0 := 3) (gr := 20010) (by omega) (Vn_cV ho) (Vn_cV hd) (by omega)
  (by rw [vv_cV]; exact Cn.of ho) (by rw [vv_cV]; exact Cn.of hd) 0 (by omega) hm
 rw [vv_cV, vv_cV] at h
 exact h
theorem Pn1_int (x y z : Int) (hx : x.natAbs < 4294967296) (hy : y.natAbs < 4294967296) (hz : z.natAbs < 4294967296) : Pn 1 ⟨x, y, z⟩ := ⟨Qn_int hx, Qn_int hy, Qn_int hz⟩
theorem roomL_map : Mpn 1 (cMap Ψ roomL.map) := by
 have hq : ∀ q : Rat, decide (q.num.natAbs < 4294967296 ∧ q.den < 4294967296) = true → Qn 1 q := fun q h => by
  obtain ⟨h1, h2⟩ := of_decide_eq_true h
  exact ⟨by rw [Nat.pow_one]; exact h1, by rw [Nat.pow_one]; exact h2⟩
 exact Mpn_c ⟨⟨hq _ (by decide +kernel), hq _ (by decide +kernel), hq _ (by decide +kernel)⟩, ⟨hq _ (by decide +kernel), hq _ (by decide +kernel), hq _ (by decide +kernel)⟩, ⟨hq _ (by decide +kernel), hq _ (by decide +kernel), hq _ (by decide +kernel)⟩, ⟨hq _ (by decide +kernel), hq _ (by decide +kernel), hq _ (by decide +kernel)⟩⟩
theorem fixed15_good : Good P F.penumbralaw15_fixed [] [] (.d (.b true)) [] := by
 refine G.penumbralaw15_fixed fun C C2 hC hC2 => ?_
 have g0 := room15_good
 have p001 := Pn1_int 0 0 1 (by omega) (by omega) (by omega)
 have p101 := Pn1_int 1 0 1 (by omega) (by omega) (by omega)
 have p003 := Pn1_int 0 0 3 (by omega) (by omega) (by omega)
 have p300 := Pn1_int 3 0 0 (by omega) (by omega) (by omega)
 have p304 := Pn1_int 3 0 4 (by omega) (by omega) (by omega)
 have g1 := room_follow _ _ p001 p101
 have g2 := room_follow _ _ p003 p001
 have v1 := vof_good 0 0 1 (by omega) (by omega) (by omega) (by omega) (by omega) (by omega)
 have v2 := vof_good 1 0 1 (by omega) (by omega) (by omega) (by omega) (by omega) (by omega)
 have v3 := vof_good 0 0 3 (by omega) (by omega) (by omega) (by omega) (by omega) (by omega)
 have v4 := of5_good 3 0 0 (by omega) (by omega) (by omega) (by omega) (by omega) (by omega)
 have v5 := of5_good 3 0 4 (by omega) (by omega) (by omega) (by omega) (by omega) (by omega)
 have v6 := of3_good 1 2 (by omega) (by omega) (by omega) (by omega)
 have e1 : followR roomS ⟨(0 : Int), (0 : Int), (1 : Int)⟩ ⟨(1 : Int), (0 : Int), (1 : Int)⟩ 0 = some (0, roomL) := room_ray
 have e2 : followR roomS ⟨(0 : Int), (0 : Int), (3 : Int)⟩ ⟨(0 : Int), (0 : Int), (1 : Int)⟩ 0 = none := room_no
 rw [e1] at g1
 rw [e2] at g2
 have hp : roomL.p = ⟨(3 : Int), (0 : Int), (0 : Int)⟩ := rfl
 have hh : roomL.hops = [1] := rfl
 have hga : roomL.gain = ((1 : Int) : Rat) / ((2 : Int) : Rat) := by rw [roomL_gain]; decide +kernel
 simp only [lkD, Option.isSome_some, Option.isSome_none, hp, hh, hga] at g1 g2
 have q2 : Qn 1 (((1 : Int) : Rat) / ((2 : Int) : Rat)) := by rw [← hga, roomL_gain]; exact ⟨by decide +kernel, by decide +kernel⟩
 have i1 := is5_good _ _ (Vn_cV p300) (Vn_cV p300) (by omega) (by omega)
 have ga := apply_good (cMap Ψ roomL.map) _ roomL_map (Vn_cV p300) (by omega) (by omega)
 rw [mv_cMap, vv_cV, ← hp, roomL_apply] at ga
 have i2 := is5_good _ _ (Vn_cV p304) (Vn_cV p304) (by omega) (by omega)
 have i3 := is3_good _ _ (Rn_cr.2 q2) (Rn_cr.2 q2) (by omega) (by omega)
 rw [hp] at ga
 have e304 : (⟨3, 0, 4⟩ : V3) = ⟨(3 : Int), (0 : Int), (4 : Int)⟩ := rfl
 rw [e304] at ga
 rw [decide_eq_true rfl] at i1 i2 i3
 have x1 := oD_ok.len [1]
 have x2 := oD_ok.get [1] 0 1 rfl
 have xs : Ω .eq (Ω .ci (Ω .slen (oD [1]))) 1 = true := by rw [x1]; exact eq_true'.2 (by rw [w_ci]; rfl)
 have xc : Ω .ci 1 = 1 := by rw [w_ci]; rfl
 have x0 : Ω .ci 0 = 0 := by rw [w_ci]; rfl
 rw [xc] at x2
 rw [x0] at g1
 generalize matsD roomS.mats = MD at *
 generalize facesD roomS.faces = FD at *
 generalize oD [1] = HD at *
 generalize cMap Ψ roomL.map = M at *
 generalize Ψ .cV roomL.dir = DD at *
 generalize Ψ .cV ⟨(0 : Int), (0 : Int), (1 : Int)⟩ = A001 at *
 generalize Ψ .cV ⟨(1 : Int), (0 : Int), (1 : Int)⟩ = A101 at *
 generalize Ψ .cV ⟨(0 : Int), (0 : Int), (3 : Int)⟩ = A003 at *
 generalize Ψ .cV ⟨(3 : Int), (0 : Int), (0 : Int)⟩ = A300 at *
 generalize Ψ .cV ⟨(3 : Int), (0 : Int), (4 : Int)⟩ = A304 at *
 generalize Ψ .cr (((1 : Int) : Rat) / ((2 : Int) : Rat)) = RH at *
 generalize roomS = s at *
 clear p001 p101 p003 p300 p304 e1 e2 hp hh hga q2 e304 x1 xc x0
 first | exact rq (Q := True) trivial | (refine rq ?_; trace_state; rfl)
end Go.K.S
end
