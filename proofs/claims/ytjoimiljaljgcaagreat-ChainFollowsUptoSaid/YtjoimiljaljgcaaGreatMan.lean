/-
  Parts of the proof, joined by a program of this work: KAff, KAff2, KRef7, KScene5, KScene3, KScene6, KRef9, KRef9b, KRef9c, KReady, KReady2.
-/
import Derived.Test.YtjoimiljaljgcaaGreatMal
import Derived.Test.YtjoimiljaljgcaaGreatMaj
import Derived.Test.YtjoimiljaljgcaaGreatMam
set_option linter.unusedSimpArgs false
set_option linter.unusedVariables false
section
namespace Go.K
open Go
structure Mpn (k : Nat) (m : MapL) : Prop where
  x : Vn k m.x
  y : Vn k m.y
  z : Vn k m.z
  move : Vn k m.move
structure M4n (k : Nat) (m : M4) : Prop where
  x : Pn k m.x
  y : Pn k m.y
  z : Pn k m.z
  move : Pn k m.move
theorem Mpn.mono {j k : Nat} {m : MapL} (h : Mpn j m) (hjk : j ≤ k) : Mpn k m := ⟨h.x.mono hjk, h.y.mono hjk, h.z.mono hjk, h.move.mono hjk⟩
theorem M4n.mono {j k : Nat} {m : M4} (h : M4n j m) (hjk : j ≤ k) : M4n k m := ⟨h.x.mono hjk, h.y.mono hjk, h.z.mono hjk, h.move.mono hjk⟩
theorem Mpn_c {k : Nat} {m : M4} (h : M4n k m) : Mpn k (cMap Ψ m) := ⟨Vn_cV h.x, Vn_cV h.y, Vn_cV h.z, Vn_cV h.move⟩
theorem M4n_mv {k : Nat} {m : MapL} (h : Mpn k m) (hk : 0 < k) : M4n k (mv m) := ⟨Pn_vv h.x hk, Pn_vv h.y hk, Pn_vv h.z hk, Pn_vv h.move hk⟩
end Go.K
namespace Go.K.S
open Go Go.K
set_option maxHeartbeats 8000000
set_option maxRecDepth 20000
theorem rneg_good (r : RL) {k : Nat} (h : Rn k r) (hk : k < 549755813888) : Good P F.rat_Neg [.d (.agg (dR Ψ r))] [] (.d (.agg (dR Ψ (Ψ .cr (- rv r))))) [] := by
  refine G.rat_Neg fun C C2 hC hC2 => ?_
  have g := made_good (!r.neg) r.num r.den (h.N1 (by omega)) (h.N2 (by omega)) (by have := h.kn; omega) (by have := h.kd; omega)
  have e : mkRat (sg (!r.neg) (nv r.num)) (nv r.den) = - rv r := by rw [← rv_neg]; rfl
  rw [e] at g
  generalize Ψ .cr (- rv r) = R at *
  obtain ⟨s, x, y⟩ := r
  cases s
  all_goals exact rq trivial
theorem vread_good (v : VL) {k : Nat} (h : Vn k v) (hk : k < 549755813888) : Good P F.vec_Read [.d (.agg (dV Ψ v))] [] (.d (.agg (dV Ψ (Ψ .cV (vv v))))) [] := by
  refine G.vec_Read fun C C2 hC hC2 => ?_
  have g1 := read_good v.x h.x hk
  have g2 := read_good v.y h.y hk
  have g3 := read_good v.z h.z hk
  have hV : Ψ .cV (vv v) = ⟨Ψ .cr (rv v.x), Ψ .cr (rv v.y), Ψ .cr (rv v.z)⟩ := rfl
  rw [hV]
  exact rq trivial
theorem ident_good : Good P F.affine_Identity [] [] (.d (.agg (dMap Ψ (cMap Ψ idM)))) [] := by
  refine G.affine_Identity fun C C2 hC hC2 => ?_
  have g1 := vof_good 1 0 0 (by omega) (by omega) (by omega) (by omega) (by omega) (by omega)
  have g2 := vof_good 0 1 0 (by omega) (by omega) (by omega) (by omega) (by omega) (by omega)
  have g3 := vof_good 0 0 1 (by omega) (by omega) (by omega) (by omega) (by omega) (by omega)
  have g4 := vof_good 0 0 0 (by omega) (by omega) (by omega) (by omega) (by omega) (by omega)
  have e : cMap Ψ idM = ⟨Ψ .cV ⟨((1 : Int) : Rat), ((0 : Int) : Rat), ((0 : Int) : Rat)⟩, Ψ .cV ⟨((0 : Int) : Rat), ((1 : Int) : Rat), ((0 : Int) : Rat)⟩, Ψ .cV ⟨((0 : Int) : Rat), ((0 : Int) : Rat), ((1 : Int) : Rat)⟩, Ψ .cV ⟨((0 : Int) : Rat), ((0 : Int) : Rat), ((0 : Int) : Rat)⟩⟩ := rfl
  rw [e]
  generalize Ψ .cV ⟨((1 : Int) : Rat), ((0 : Int) : Rat), ((0 : Int) : Rat)⟩ = A at *
  generalize Ψ .cV ⟨((0 : Int) : Rat), ((1 : Int) : Rat), ((0 : Int) : Rat)⟩ = B at *
  generalize Ψ .cV ⟨((0 : Int) : Rat), ((0 : Int) : Rat), ((1 : Int) : Rat)⟩ = C3 at *
  generalize Ψ .cV ⟨((0 : Int) : Rat), ((0 : Int) : Rat), ((0 : Int) : Rat)⟩ = D4 at *
  exact rq trivial
theorem turn_good (m : MapL) (d : VL) {k : Nat} (hm : Mpn k m) (hd : Vn k d) (hk : 0 < k) (hk2 : k < 8589934590) :
    Good P F.affine_Turn [.d (.agg (dMap Ψ m)), .d (.agg (dV Ψ d))] [] (.d (.agg (dV Ψ (Ψ .cV (turnS (mv m) (vv d)))))) [] := by
  refine G.affine_Turn fun C C2 hC hC2 => ?_
  have g1 := vdot_good m.x d hm.x hd hk hk2
  have g2 := vdot_good m.y d hm.y hd hk hk2
  have g3 := vdot_good m.z d hm.z hd hk hk2
  have e : Ψ .cV (turnS (mv m) (vv d)) = ⟨Ψ .cr (vdot (vv m.x) (vv d)), Ψ .cr (vdot (vv m.y) (vv d)), Ψ .cr (vdot (vv m.z) (vv d))⟩ := rfl
  rw [e]
  exact rq trivial
theorem Pn_turn {k : Nat} {m : M4} {d : V3} (hm : M4n k m) (hd : Pn k d) (hk : 0 < k) : Pn (6 * k + 2) (turnS m d) :=
  ⟨(Qn_dot hm.x hd (by omega)).mono (by omega), (Qn_dot hm.y hd (by omega)).mono (by omega), (Qn_dot hm.z hd (by omega)).mono (by omega)⟩
theorem apply_good (m : MapL) (d : VL) {k : Nat} (hm : Mpn k m) (hd : Vn k d) (hk : 0 < k) (hk2 : k < 715000000) :
    Good P F.affine_Apply [.d (.agg (dMap Ψ m)), .d (.agg (dV Ψ d))] [] (.d (.agg (dV Ψ (Ψ .cV (applyS (mv m) (vv d)))))) [] := by
  refine G.affine_Apply fun C C2 hC hC2 => ?_
  have g1 := turn_good m d hm hd hk (by omega)
  have p1 := Pn_turn (M4n_mv hm hk) (Pn_vv hd hk) hk
  have g2 := vsum2_good (Ψ .cV (turnS (mv m) (vv d))) m.move (Vn_cV p1) (hm.move.mono (show k ≤ 6 * k + 2 by omega)) (by omega) (by omega)
  rw [vv_cV] at g2
  have e : applyS (mv m) (vv d) = vadd (turnS (mv m) (vv d)) (vv m.move) := rfl
  rw [e]
  exact rq trivial
theorem columns_good (m : MapL) : Good P F.affine_columns [.d (.agg (dMap Ψ m))] []
    (.d (.agg (dV Ψ ⟨m.x.x, m.y.x, m.z.x⟩ ++ dV Ψ ⟨m.x.y, m.y.y, m.z.y⟩ ++ dV Ψ ⟨m.x.z, m.y.z, m.z.z⟩))) [] := by
  refine G.affine_columns fun C C2 hC hC2 => ?_
  exact rq trivial
end Go.K.S
end
section
namespace Go.K
open Go
end Go.K
namespace Go.K.S
open Go Go.K
set_option maxHeartbeats 8000000
set_option maxRecDepth 20000
theorem then1_good (r a b c : VL) {k : Nat} (hr : Vn k r) (ha : Vn k a) (hb : Vn k b) (hc : Vn k c) (hk : 0 < k) (hk2 : k < 8589934590) :
    Good P F.affine_Then_1 [.agg ((dV Ψ r).map V.d), .ptr 0 0] [.var ((dV Ψ a ++ dV Ψ b ++ dV Ψ c).map V.d)]
      (.agg ((dV Ψ (Ψ .cV ⟨vdot (vv r) (vv a), vdot (vv r) (vv b), vdot (vv r) (vv c)⟩)).map V.d)) [.var ((dV Ψ a ++ dV Ψ b ++ dV Ψ c).map V.d)] := by
  refine G.affine_Then_1 (hb := of_decide_eq_true rfl) fun C C2 hC hC2 => ?_
  have g1 := vdot_good r a hr ha hk hk2
  have g2 := vdot_good r b hr hb hk hk2
  have g3 := vdot_good r c hr hc hk hk2
  have e : Ψ .cV ⟨vdot (vv r) (vv a), vdot (vv r) (vv b), vdot (vv r) (vv c)⟩ = ⟨Ψ .cr (vdot (vv r) (vv a)), Ψ .cr (vdot (vv r) (vv b)), Ψ .cr (vdot (vv r) (vv c))⟩ := rfl
  rw [e]
  refine rq ?_
  exact ⟨[], rfl, rfl, rfl⟩
theorem then_good (a b : MapL) {k : Nat} (ha : Mpn k a) (hb : Mpn k b) (hk : 0 < k) (hk2 : k < 715000000) :
    Good P F.affine_Then [.d (.agg (dMap Ψ a)), .d (.agg (dMap Ψ b))] [] (.d (.agg (dMap Ψ (cMap Ψ (thenS (mv a) (mv b)))))) [] := by
  refine G.affine_Then fun C C2 hC hC2 => ?_
  have g0 := columns_good a
  have g1 := then1_good b.x ⟨a.x.x, a.y.x, a.z.x⟩ ⟨a.x.y, a.y.y, a.z.y⟩ ⟨a.x.z, a.y.z, a.z.z⟩ hb.x ⟨ha.x.x, ha.y.x, ha.z.x⟩ ⟨ha.x.y, ha.y.y, ha.z.y⟩ ⟨ha.x.z, ha.y.z, ha.z.z⟩ hk (by omega)
  have g2 := then1_good b.y ⟨a.x.x, a.y.x, a.z.x⟩ ⟨a.x.y, a.y.y, a.z.y⟩ ⟨a.x.z, a.y.z, a.z.z⟩ hb.y ⟨ha.x.x, ha.y.x, ha.z.x⟩ ⟨ha.x.y, ha.y.y, ha.z.y⟩ ⟨ha.x.z, ha.y.z, ha.z.z⟩ hk (by omega)
  have g3 := then1_good b.z ⟨a.x.x, a.y.x, a.z.x⟩ ⟨a.x.y, a.y.y, a.z.y⟩ ⟨a.x.z, a.y.z, a.z.z⟩ hb.z ⟨ha.x.x, ha.y.x, ha.z.x⟩ ⟨ha.x.y, ha.y.y, ha.z.y⟩ ⟨ha.x.z, ha.y.z, ha.z.z⟩ hk (by omega)
  have g4 := apply_good b a.move hb ha.move hk hk2
  have e : cMap Ψ (thenS (mv a) (mv b)) = ⟨Ψ .cV (rowS (mv a) (mv b).x), Ψ .cV (rowS (mv a) (mv b).y), Ψ .cV (rowS (mv a) (mv b).z), Ψ .cV (applyS (mv b) (vv a.move))⟩ := rfl
  rw [e]
  have er : ∀ r : V3, (⟨vdot r (vv ⟨a.x.x, a.y.x, a.z.x⟩), vdot r (vv ⟨a.x.y, a.y.y, a.z.y⟩), vdot r (vv ⟨a.x.z, a.y.z, a.z.z⟩)⟩ : V3) = rowS (mv a) r := fun r => rfl
  rw [er] at g1 g2 g3
  have x1 : vv b.x = (mv b).x := rfl
  have x2 : vv b.y = (mv b).y := rfl
  have x3 : vv b.z = (mv b).z := rfl
  rw [x1] at g1
  rw [x2] at g2
  rw [x3] at g3
  generalize Ψ .cV (rowS (mv a) (mv b).x) = R1 at *
  generalize Ψ .cV (rowS (mv a) (mv b).y) = R2 at *
  generalize Ψ .cV (rowS (mv a) (mv b).z) = R3 at *
  generalize Ψ .cV (applyS (mv b) (vv a.move)) = R4 at *
  clear er x1 x2 x3 e
  exact rq trivial
theorem stretch_good (p n : VL) (s : RL) {k : Nat} (hp : Vn k p) (hn : Vn k n) (hs : Rn k s) (hk : 0 < k) (hk2 : k < 134217728) :
    Good P F.affine_Stretch [.d (.agg (dV Ψ p)), .d (.agg (dV Ψ n)), .d (.agg (dR Ψ s))] [] (.d (.agg (dMap Ψ (cMap Ψ (stretchS (vv p) (vv n) (rv s)))))) [] := by
  refine G.affine_Stretch fun C C2 hC hC2 => ?_
  have g1 := of11_good
  have g2 := rsub_good s (Ψ .cr 1) (k := 1) hs (Rn_cr.2 Qn_one') hk (by omega) (by omega) (by omega)
  rw [rv_cr] at g2
  have q1 := (Qn_sub (Qn_rv hs hk) Qn_one').mono (show _ ≤ k + 2 by omega)
  have g3 := ident_good
  have pn := Pn_vv hn hk
  have gp := fun (x : RL) (hx : Rn k x) => prod2_good (Ψ .cr (rv s - 1)) x (Rn_cr.2 q1) (hx.mono (show k ≤ k + 2 by omega)) (by omega) (by omega)
  simp only [rv_cr] at gp
  have qp := fun (x : RL) (hx : Rn k x) => (Qn_mul q1 (Qn_rv hx hk) (by omega)).mono (show _ ≤ 2 * k + 2 by omega)
  have gs := fun (x : RL) (hx : Rn k x) => vscale_good (Ψ .cr ((rv s - 1) * rv x)) n (Rn_cr.2 (qp x hx)) (hn.mono (show k ≤ 2 * k + 2 by omega)) (by omega) (by omega)
  simp only [rv_cr] at gs
  have ps := fun (x : RL) (hx : Rn k x) => (Pn_mul (qp x hx) pn (by omega)).mono (show _ ≤ 3 * k + 2 by omega)
  have ga := fun (e : V3) (he : Pn 2 e) (x : RL) (hx : Rn k x) => vsum2_good (Ψ .cV e) (Ψ .cV (vmul ((rv s - 1) * rv x) (vv n))) (Vn_cV (he.mono (show 2 ≤ 3 * k + 2 by omega))) (Vn_cV (ps x hx)) (by omega) (by omega)
  simp only [vv_cV] at ga
  have gd := vdot_good p n hp hn hk (by omega)
  have qd := (Qn_dot (Pn_vv hp hk) pn (by omega)).mono (show _ ≤ 6 * k + 2 by omega)
  have gpd := prod2_good (Ψ .cr (rv s - 1)) (Ψ .cr (vdot (vv p) (vv n))) (Rn_cr.2 (q1.mono (show k + 2 ≤ 6 * k + 2 by omega))) (Rn_cr.2 qd) (by omega) (by omega)
  rw [rv_cr, rv_cr] at gpd
  have qpd := (Qn_mul q1 qd (by omega)).mono (show _ ≤ 7 * k + 4 by omega)
  have gn := rneg_good (Ψ .cr ((rv s - 1) * vdot (vv p) (vv n))) (Rn_cr.2 qpd) (by omega)
  rw [rv_cr] at gn
  have gm := vscale_good (Ψ .cr (-((rv s - 1) * vdot (vv p) (vv n)))) n (Rn_cr.2 (Qn_neg qpd)) (hn.mono (show k ≤ 7 * k + 4 by omega)) (by omega) (by omega)
  rw [rv_cr] at gm
  have z0 : Qn 2 0 := Qn_zero (by omega)
  have u1 : Qn 2 1 := Qn_one (by omega)
  have x1 := gp n.x hn.x
  have x2 := gs n.x hn.x
  have x3 := ga ⟨1, 0, 0⟩ ⟨u1, z0, z0⟩ n.x hn.x
  have y1 := gp n.y hn.y
  have y2 := gs n.y hn.y
  have y3 := ga ⟨0, 1, 0⟩ ⟨z0, u1, z0⟩ n.y hn.y
  have z1 := gp n.z hn.z
  have z2 := gs n.z hn.z
  have z3 := ga ⟨0, 0, 1⟩ ⟨z0, z0, u1⟩ n.z hn.z
  have e0 : cMap Ψ idM = ⟨Ψ .cV ⟨1, 0, 0⟩, Ψ .cV ⟨0, 1, 0⟩, Ψ .cV ⟨0, 0, 1⟩, Ψ .cV ⟨0, 0, 0⟩⟩ := rfl
  rw [e0] at g3
  have e : cMap Ψ (stretchS (vv p) (vv n) (rv s)) = ⟨Ψ .cV (vadd ⟨1, 0, 0⟩ (vmul ((rv s - 1) * rv n.x) (vv n))), Ψ .cV (vadd ⟨0, 1, 0⟩ (vmul ((rv s - 1) * rv n.y) (vv n))), Ψ .cV (vadd ⟨0, 0, 1⟩ (vmul ((rv s - 1) * rv n.z) (vv n))), Ψ .cV (vmul (-((rv s - 1) * vdot (vv p) (vv n))) (vv n))⟩ := rfl
  rw [e]
  clear e e0 gp gs ga ps qp
  generalize Ψ .cV ⟨1, 0, 0⟩ = I1 at *
  generalize Ψ .cV ⟨0, 1, 0⟩ = I2 at *
  generalize Ψ .cV ⟨0, 0, 1⟩ = I3 at *
  generalize Ψ .cV ⟨0, 0, 0⟩ = I4 at *
  generalize Ψ .cV (vadd ⟨1, 0, 0⟩ (vmul ((rv s - 1) * rv n.x) (vv n))) = A1 at *
  generalize Ψ .cV (vadd ⟨0, 1, 0⟩ (vmul ((rv s - 1) * rv n.y) (vv n))) = A2 at *
  generalize Ψ .cV (vadd ⟨0, 0, 1⟩ (vmul ((rv s - 1) * rv n.z) (vv n))) = A3 at *
  generalize Ψ .cV (vmul (-((rv s - 1) * vdot (vv p) (vv n))) (vv n)) = A4 at *
  exact rq trivial
end Go.K.S
end
section
namespace Go.K
open Go
theorem MapL.ext_iff' {a b : MapL} : a = b ↔ a.x = b.x ∧ a.y = b.y ∧ a.z = b.z ∧ a.move = b.move := by
  cases a; cases b; simp
instance : DecidableEq MapL := fun _ _ => decidable_of_iff _ MapL.ext_iff'.symm
instance : DecidableEq M4 := fun _ _ => decidable_of_iff _ M4.ext_iff'.symm
end Go.K
namespace Go.K.S
open Go Go.K
set_option maxHeartbeats 8000000
set_option maxRecDepth 20000
theorem Pn_apply {k : Nat} {m : M4} {d : V3} (hm : M4n k m) (hd : Pn k d) (hk : 0 < k) : Pn (7 * k + 3) (applyS m d) :=
  (Pn_add (Pn_turn hm hd hk) hm.move).mono (by omega)
theorem is7_good (a b : MapL) {j k : Nat} (ha : Mpn j a) (hb : Mpn k b) (hj : j < 1099511627776) (hk : k < 1099511627776) :
    Good P F.penumbraref07_Is [.d (.agg (dMap Ψ a)), .d (.agg (dMap Ψ b))] [] (.d (.b (decide (a = b)))) [] := by
  refine G.penumbraref07_Is fun C C2 hC hC2 => ?_
  have g1 := is5_good a.x b.x ha.x hb.x hj hk
  have g2 := is5_good a.y b.y ha.y hb.y hj hk
  have g3 := is5_good a.z b.z ha.z hb.z hj hk
  have g4 := is5_good a.move b.move ha.move hb.move hj hk
  have hR2 : decide (a = b) = (decide (a.x = b.x) && (decide (a.y = b.y) && (decide (a.z = b.z) && decide (a.move = b.move)))) := by
    rw [← Bool.decide_and, ← Bool.decide_and, ← Bool.decide_and]
    exact decide_eq_decide.2 MapL.ext_iff'
  rw [hR2]
  clear hR2
  generalize decide (a.x = b.x) = t1 at *
  generalize decide (a.y = b.y) = t2 at *
  generalize decide (a.z = b.z) = t3 at *
  generalize decide (a.move = b.move) = t4 at *
  cases t1
  · exact rq trivial
  cases t2
  · exact rq trivial
  cases t3
  · exact rq trivial
  cases t4
  all_goals exact rq trivial
theorem ident7_good : Good P F.penumbraref07_Identity [] [] (.d (.agg (dMap Ψ (cMap Ψ idM)))) [] := by
  refine G.penumbraref07_Identity fun C C2 hC hC2 => ?_
  have g1 := of5_good 1 0 0 (by omega) (by omega) (by omega) (by omega) (by omega) (by omega)
  have g2 := of5_good 0 1 0 (by omega) (by omega) (by omega) (by omega) (by omega) (by omega)
  have g3 := of5_good 0 0 1 (by omega) (by omega) (by omega) (by omega) (by omega) (by omega)
  have g4 := zero5_good
  have e : cMap Ψ idM = ⟨Ψ .cV ⟨((1 : Int) : Rat), ((0 : Int) : Rat), ((0 : Int) : Rat)⟩, Ψ .cV ⟨((0 : Int) : Rat), ((1 : Int) : Rat), ((0 : Int) : Rat)⟩, Ψ .cV ⟨((0 : Int) : Rat), ((0 : Int) : Rat), ((1 : Int) : Rat)⟩, Ψ .cV v0⟩ := rfl
  rw [e]
  generalize Ψ .cV ⟨((1 : Int) : Rat), ((0 : Int) : Rat), ((0 : Int) : Rat)⟩ = A at *
  generalize Ψ .cV ⟨((0 : Int) : Rat), ((1 : Int) : Rat), ((0 : Int) : Rat)⟩ = B at *
  generalize Ψ .cV ⟨((0 : Int) : Rat), ((0 : Int) : Rat), ((1 : Int) : Rat)⟩ = C3 at *
  generalize Ψ .cV v0 = D4 at *
  exact rq trivial
theorem turn7_good (m : MapL) (d : VL) {k : Nat} (hm : Mpn k m) (hd : Vn k d) (hk : 0 < k) (hk2 : k < 8589934590) :
    Good P F.penumbraref07_Turn [.d (.agg (dMap Ψ m)), .d (.agg (dV Ψ d))] [] (.d (.agg (dV Ψ (Ψ .cV (turnS (mv m) (vv d)))))) [] := by
  refine G.penumbraref07_Turn fun C C2 hC hC2 => ?_
  have g1 := dot5_good m.x d hm.x hd hk hk hk2 hk2
  have g2 := dot5_good m.y d hm.y hd hk hk hk2 hk2
  have g3 := dot5_good m.z d hm.z hd hk hk hk2 hk2
  have e : Ψ .cV (turnS (mv m) (vv d)) = ⟨Ψ .cr (vdot (vv m.x) (vv d)), Ψ .cr (vdot (vv m.y) (vv d)), Ψ .cr (vdot (vv m.z) (vv d))⟩ := rfl
  rw [e]
  exact rq trivial
theorem apply7_good (m : MapL) (d : VL) {k : Nat} (hm : Mpn k m) (hd : Vn k d) (hk : 0 < k) (hk2 : k < 8589934590) :
    Good P F.penumbraref07_Apply [.d (.agg (dMap Ψ m)), .d (.agg (dV Ψ d))] [] (.d (.agg (dV Ψ (Ψ .cV (applyS (mv m) (vv d)))))) [] := by
  refine G.penumbraref07_Apply fun C C2 hC hC2 => ?_
  have g1 := turn7_good m d hm hd hk (by omega)
  have p1 := Pn_turn (M4n_mv hm hk) (Pn_vv hd hk) hk
  have g2 := add5_good (Ψ .cV (turnS (mv m) (vv d))) m.move (Vn_cV p1) (hm.move.mono (show k ≤ 6 * k + 2 by omega)) (by omega)
  rw [vv_cV] at g2
  have e : applyS (mv m) (vv d) = vadd (turnS (mv m) (vv d)) (vv m.move) := rfl
  rw [e]
  exact rq trivial
theorem told7_good (o x y z : V3) {k : Nat} (ho : Pn k o) (hx : Pn k x) (hy : Pn k y) (hz : Pn k z) (hk : 0 < k) (hk2 : k < 68719476736) :
    Good P F.penumbraref07_Told [.d (.agg (dV Ψ (Ψ .cV o))), .d (.agg (dV Ψ (Ψ .cV x))), .d (.agg (dV Ψ (Ψ .cV y))), .d (.agg (dV Ψ (Ψ .cV z)))] [] (.d (.agg (dMap Ψ (cMap Ψ (toldS o x y z))))) [] := by
  refine G.penumbraref07_Told fun C C2 hC hC2 => ?_
  have g1 := sub5_good (Ψ .cV x) (Ψ .cV o) (Vn_cV hx) (Vn_cV ho) hk hk2 hk2
  have g2 := sub5_good (Ψ .cV y) (Ψ .cV o) (Vn_cV hy) (Vn_cV ho) hk hk2 hk2
  have g3 := sub5_good (Ψ .cV z) (Ψ .cV o) (Vn_cV hz) (Vn_cV ho) hk hk2 hk2
  simp only [vv_cV] at g1 g2 g3
  have e : cMap Ψ (toldS o x y z) = ⟨⟨(Ψ .cV (vsub x o)).x, (Ψ .cV (vsub y o)).x, (Ψ .cV (vsub z o)).x⟩, ⟨(Ψ .cV (vsub x o)).y, (Ψ .cV (vsub y o)).y, (Ψ .cV (vsub z o)).y⟩, ⟨(Ψ .cV (vsub x o)).z, (Ψ .cV (vsub y o)).z, (Ψ .cV (vsub z o)).z⟩, Ψ .cV o⟩ := rfl
  rw [e]
  generalize Ψ .cV (vsub x o) = A at *
  generalize Ψ .cV (vsub y o) = B at *
  generalize Ψ .cV (vsub z o) = C3 at *
  exact rq trivial
theorem e0_good : Good P F.penumbraref05_Of [.d (.i .i64 1), .d (.i .i64 0), .d (.i .i64 0)] [] (.d (.agg (dV Ψ (Ψ .cV e1)))) [] := of5_good 1 0 0 (by omega) (by omega) (by omega) (by omega) (by omega) (by omega)
theorem e1_good : Good P F.penumbraref05_Of [.d (.i .i64 0), .d (.i .i64 1), .d (.i .i64 0)] [] (.d (.agg (dV Ψ (Ψ .cV e2)))) [] := of5_good 0 1 0 (by omega) (by omega) (by omega) (by omega) (by omega) (by omega)
theorem e2_good : Good P F.penumbraref05_Of [.d (.i .i64 0), .d (.i .i64 0), .d (.i .i64 1)] [] (.d (.agg (dV Ψ (Ψ .cV e3)))) [] := of5_good 0 0 1 (by omega) (by omega) (by omega) (by omega) (by omega) (by omega)
theorem Pn_e1 {k : Nat} (hk : 0 < k) : Pn k e1 := ⟨Qn_one hk, Qn_zero hk, Qn_zero hk⟩
theorem Pn_e2 {k : Nat} (hk : 0 < k) : Pn k e2 := ⟨Qn_zero hk, Qn_one hk, Qn_zero hk⟩
theorem Pn_e3 {k : Nat} (hk : 0 < k) : Pn k e3 := ⟨Qn_zero hk, Qn_zero hk, Qn_one hk⟩
theorem then7_good (a b : MapL) {k : Nat} (ha : Mpn k a) (hb : Mpn k b) (hk : 0 < k) (hk2 : k < 536870912) :
    Good P F.penumbraref07_Then [.d (.agg (dMap Ψ a)), .d (.agg (dMap Ψ b))] [] (.d (.agg (dMap Ψ (cMap Ψ (thenS (mv a) (mv b)))))) [] := by
  refine G.penumbraref07_Then fun C C2 hC hC2 => ?_
  have g0 := zero5_good
  have g1 := e0_good
  have g2 := e1_good
  have g3 := e2_good
  have hma := M4n_mv ha hk
  have hmb := M4n_mv hb hk
  have ga := fun (e : V3) (he : Pn k e) => apply7_good a (Ψ .cV e) ha (Vn_cV he) hk (by omega)
  have gb := fun (e : V3) (he : Pn k e) => apply7_good b (Ψ .cV (applyS (mv a) e)) (k := 7 * k + 3) (hb.mono (by omega)) (Vn_cV (Pn_apply hma he hk)) (by omega) (by omega)
  simp only [vv_cV] at ga gb
  have pe := fun (e : V3) (he : Pn k e) => (Pn_add (Pn_turn (hmb.mono (show k ≤ 7 * k + 3 by omega)) (Pn_apply hma he hk) (by omega)) hmb.move).mono (show _ ≤ 43 * k + 21 by omega)
  have gt := told7_good _ _ _ _ (pe v0 (Pn_v0 hk)) (pe e1 (Pn_e1 hk)) (pe e2 (Pn_e2 hk)) (pe e3 (Pn_e3 hk)) (by omega) (by omega)
  have a0 := ga v0 (Pn_v0 hk)
  have a1 := ga e1 (Pn_e1 hk)
  have a2 := ga e2 (Pn_e2 hk)
  have a3 := ga e3 (Pn_e3 hk)
  have b0 := gb v0 (Pn_v0 hk)
  have b1 := gb e1 (Pn_e1 hk)
  have b2 := gb e2 (Pn_e2 hk)
  have b3 := gb e3 (Pn_e3 hk)
  have et : toldS (vadd (turnS (mv b) (applyS (mv a) v0)) (mv b).move) (vadd (turnS (mv b) (applyS (mv a) e1)) (mv b).move) (vadd (turnS (mv b) (applyS (mv a) e2)) (mv b).move) (vadd (turnS (mv b) (applyS (mv a) e3)) (mv b).move) = thenS (mv a) (mv b) := (then_told (mv a) (mv b)).symm
  rw [et] at gt
  have eb : ∀ e : V3, vadd (turnS (mv b) (applyS (mv a) e)) (mv b).move = applyS (mv b) (applyS (mv a) e) := fun e => rfl
  rw [eb, eb, eb, eb] at gt
  clear ga gb pe et eb
  generalize cMap Ψ (thenS (mv a) (mv b)) = R at *
  generalize Ψ .cV (applyS (mv b) (applyS (mv a) v0)) = B0 at *
  generalize Ψ .cV (applyS (mv b) (applyS (mv a) e1)) = B1 at *
  generalize Ψ .cV (applyS (mv b) (applyS (mv a) e2)) = B2 at *
  generalize Ψ .cV (applyS (mv b) (applyS (mv a) e3)) = B3 at *
  generalize Ψ .cV (applyS (mv a) v0) = A0 at *
  generalize Ψ .cV (applyS (mv a) e1) = A1 at *
  generalize Ψ .cV (applyS (mv a) e2) = A2 at *
  generalize Ψ .cV (applyS (mv a) e3) = A3 at *
  generalize Ψ .cV v0 = E0 at *
  generalize Ψ .cV e1 = E1 at *
  generalize Ψ .cV e2 = E2 at *
  generalize Ψ .cV e3 = E3 at *
  exact rq trivial
theorem Pn_stretched {k : Nat} {p n x : V3} {s : Rat} (hp : Pn k p) (hn : Pn k n) (hs : Qn k s) (hx : Pn k x) (hk : 0 < k) : Pn (13 * k + 9) (stretchedS p n s x) :=
  (Pn_add hx (Pn_mul (Qn_mul (Qn_sub hs Qn_one') (Qn_dot (Pn_sub hx hp) hn (by omega)) (by omega)) hn (by omega))).mono (by omega)
theorem stretched7_good (p n : VL) (s : RL) (x : V3) {k : Nat} (hp : Vn k p) (hn : Vn k n) (hs : Rn k s) (hx : Pn k x) (hk : 0 < k) (hk2 : k < 536870912) :
    Good P F.penumbraref07_stretched [.d (.agg (dV Ψ p)), .d (.agg (dV Ψ n)), .d (.agg (dR Ψ s)), .d (.agg (dV Ψ (Ψ .cV x)))] [] (.d (.agg (dV Ψ (Ψ .cV (stretchedS (vv p) (vv n) (rv s) x))))) [] := by
  refine G.penumbraref07_stretched fun C C2 hC hC2 => ?_
  have g1 := one3_good
  have g2 := sub3_good s (Ψ .cr 1) hs (Rn_cr.2 Qn_one') (by omega) (by omega) (by omega)
  have g3 := sub5_good (Ψ .cV x) p (Vn_cV hx) hp hk (by omega) (by omega)
  rw [rv_cr] at g2
  rw [vv_cV] at g3
  have q1 := Qn_sub (Qn_rv hs hk) Qn_one'
  have p3 := Pn_sub hx (Pn_vv hp hk)
  have g4 := dot5_good (Ψ .cV (vsub x (vv p))) n (Vn_cV p3) hn (by omega) hk (by omega) (by omega)
  rw [vv_cV] at g4
  have q4 := Qn_dot p3 (Pn_vv hn hk) (by omega)
  have g5 := mul3_good (Ψ .cr (rv s - 1)) (Ψ .cr (vdot (vsub x (vv p)) (vv n))) (Rn_cr.2 q1) (Rn_cr.2 q4) (by omega) (by omega)
  rw [rv_cr, rv_cr] at g5
  have q5 := (Qn_mul q1 q4 (by omega)).mono (show _ ≤ 10 * k + 7 by omega)
  have g6 := scale5_good (Ψ .cr ((rv s - 1) * vdot (vsub x (vv p)) (vv n))) n (Rn_cr.2 q5) (hn.mono (show k ≤ 10 * k + 7 by omega)) (by omega)
  rw [rv_cr] at g6
  have p6 := (Pn_mul q5 (Pn_vv hn hk) (by omega)).mono (show _ ≤ 11 * k + 7 by omega)
  have g7 := add5_good (Ψ .cV x) (Ψ .cV (vmul ((rv s - 1) * vdot (vsub x (vv p)) (vv n)) (vv n))) (Vn_cV (hx.mono (show k ≤ 11 * k + 7 by omega))) (Vn_cV p6) (by omega)
  rw [vv_cV, vv_cV] at g7
  have e : stretchedS (vv p) (vv n) (rv s) x = vadd x (vmul ((rv s - 1) * vdot (vsub x (vv p)) (vv n)) (vv n)) := rfl
  rw [e]
  generalize Ψ .cV (vadd x (vmul ((rv s - 1) * vdot (vsub x (vv p)) (vv n)) (vv n))) = R at *
  generalize Ψ .cr 1 = N1 at *
  exact rq trivial
theorem stretch7_good (p n : VL) (s : RL) {k : Nat} (hp : Vn k p) (hn : Vn k n) (hs : Rn k s) (hk : 0 < k) (hk2 : k < 536870912) :
    Good P F.penumbraref07_Stretch [.d (.agg (dV Ψ p)), .d (.agg (dV Ψ n)), .d (.agg (dR Ψ s))] [] (.d (.agg (dMap Ψ (cMap Ψ (stretchS (vv p) (vv n) (rv s)))))) [] := by
  refine G.penumbraref07_Stretch fun C C2 hC hC2 => ?_
  have g0 := zero5_good
  have g1 := e0_good
  have g2 := e1_good
  have g3 := e2_good
  have a0 := stretched7_good p n s v0 hp hn hs (Pn_v0 hk) hk (by omega)
  have a1 := stretched7_good p n s e1 hp hn hs (Pn_e1 hk) hk (by omega)
  have a2 := stretched7_good p n s e2 hp hn hs (Pn_e2 hk) hk (by omega)
  have a3 := stretched7_good p n s e3 hp hn hs (Pn_e3 hk) hk (by omega)
  have pe := fun (e : V3) (he : Pn k e) => Pn_stretched (Pn_vv hp hk) (Pn_vv hn hk) (Qn_rv hs hk) he hk
  have gt := told7_good _ _ _ _ (pe v0 (Pn_v0 hk)) (pe e1 (Pn_e1 hk)) (pe e2 (Pn_e2 hk)) (pe e3 (Pn_e3 hk)) (by omega) (by omega)
  rw [← stretch_told] at gt
  clear pe
  generalize cMap Ψ (stretchS (vv p) (vv n) (rv s)) = R at *
  generalize Ψ .cV (stretchedS (vv p) (vv n) (rv s) v0) = B0 at *
  generalize Ψ .cV (stretchedS (vv p) (vv n) (rv s) e1) = B1 at *
  generalize Ψ .cV (stretchedS (vv p) (vv n) (rv s) e2) = B2 at *
  generalize Ψ .cV (stretchedS (vv p) (vv n) (rv s) e3) = B3 at *
  generalize Ψ .cV v0 = E0 at *
  generalize Ψ .cV e1 = E1 at *
  generalize Ψ .cV e2 = E2 at *
  generalize Ψ .cV e3 = E3 at *
  exact rq trivial
end Go.K.S
end
section
namespace Go.K.S
open Go Go.K
set_option maxHeartbeats 8000000
set_option maxRecDepth 20000
theorem material_good (s : ScL) {MD FD : List D} (hD : ScD s MD FD) {i : Nat} {m : MatL} (hm : s.mats[i]? = some m) {k : Nat} (hv : ∀ r, r ∈ m.vals → Rn k r) (ha : Rn k m.a) (hb : Rn k m.b) (hwn : ∀ r, r ∈ s.waves → Rn k r) (hk : 0 < k) (hk2 : k < 16777216) (hl : s.waves.length < 1099511627776) :
    Good P F.scene_material [.d (.agg (dSc Ψ MD FD s)), .d (.i .i64 (Ω .ci i))] [] (.d (.b (matB s.waves m))) [] := by
  refine G.scene_material fun C C2 hC hC2 => ?_
  have hx1 := hD.m i m hm
  have g14 := of14_good
  have g11 := of11_good
  have gs := fun (r : RL) (h : Rn k r) => sign_good r h (by omega)
  have q4 : Qn 2 ((1 : Rat) / 4) := ⟨by decide +kernel, by decide +kernel⟩
  have gc4 := fun (r : RL) (h : Rn k r) => rcmp_good r (Ψ .cr (1 / 4)) (j := k) (k := 2) h (Rn_cr.2 q4) (by omega) (by omega)
  have gc1 := fun (r : RL) (h : Rn k r) => rcmp_good r (Ψ .cr 1) (j := k) (k := 1) h (Rn_cr.2 Qn_one') (by omega) (by omega)
  have ge : ∀ bin, bin < s.waves.length → _ := fun bin h => eta_good s hD hm (List.getElem?_eq_getElem h) ha hb (hwn _ (List.getElem_mem h)) hk (by omega)
  have gse : ∀ bin e, etaM s.waves m bin = some e → Good P F.rat_Sign [.d (.agg (dR Ψ (Ψ .cr e)))] [] (.d (.i .i64 (Ψ .sI e))) [] := fun bin e he => by
    have hq : Qn (6 * k) e := by
      unfold etaM at he
      cases hw : s.waves[bin]? with
      | none => rw [hw] at he; cases he
      | some w =>
        rw [hw] at he
        simp only at he
        split at he
        · cases he
          have hwk := Qn_rv (hwn w (List.mem_of_getElem? hw)) hk
          exact (Qn_add (Qn_rv ha hk) (Qn_div (Qn_rv hb hk) (Qn_mul hwk hwk (by omega)) (by omega))).mono (by omega)
        · cases he
    have := sign_good (Ψ .cr e) (Rn_cr.2 hq) (by omega)
    rw [rv_cr] at this
    exact this
  simp only [rv_cr] at gc4 gc1
  have gsa := gs m.a ha
  have gsb := gs m.b hb
  obtain ⟨R, hR⟩ : ∃ R, R = matB s.waves m := ⟨_, rfl⟩
  rw [← hR]
  unfold matB at hR
  by_cases h0 : 0 ≤ m.kind
  rotate_left
  · have q1 : Ω .lt m.kind 0 = true := lt_true.2 (by omega)
    rw [decide_eq_false h0] at hR
    simp only [Bool.false_and] at hR
    subst hR
    clear ge gse
    exact rq trivial
  have q1 : Ω .lt m.kind 0 = false := lt_false.2 h0
  rw [decide_eq_true h0] at hR
  by_cases h1 : m.kind < 4
  rotate_left
  · have q2 : Ω .le 4 m.kind = true := le_true.2 (by omega)
    rw [decide_eq_false h1] at hR
    simp only [Bool.and_false, Bool.false_and] at hR
    subst hR
    clear ge gse
    exact rq trivial
  have q2 : Ω .le 4 m.kind = false := le_false.2 h1
  rw [decide_eq_true h1] at hR
  by_cases hln : m.vals.length = s.waves.length
  rotate_left
  · have q3 : Ω .ne (Ω .ci m.vals.length) (Ω .ci s.waves.length) = true := by simp only [wz]; omega
    rw [decide_eq_false hln] at hR
    simp only [Bool.and_false, Bool.false_and] at hR
    subst hR
    clear ge gse
    exact rq trivial
  have q3 : Ω .ne (Ω .ci m.vals.length) (Ω .ci s.waves.length) = false := by simp only [wz]; omega
  rw [decide_eq_true hln] at hR
  simp only [Bool.true_and] at hR
  have hzl : m.vals.zipIdx.length = m.vals.length := List.length_zipIdx
  have hz : ∀ j r, m.vals[j]? = some r → m.vals.zipIdx[j]? = some (r, j) := fun j r h => by rw [List.getElem?_zipIdx, h]; simp
  have hst : ∀ j r, m.vals[j]? = some r → valB s.waves m j r = true → (m.vals.zipIdx.take j).all (fun x => valB s.waves m x.2 x.1) = true → (m.vals.zipIdx.take (j + 1)).all (fun x => valB s.waves m x.2 x.1) = true := fun j r h h1 h2 => by
    rw [all_take_succ (hz j r h), h2, Bool.true_and]; exact h1
  have hbad : ∀ j r, m.vals[j]? = some r → valB s.waves m j r = false → R = false := fun j r h h1 => by
    have : valsB s.waves m = false := all_false_of (hz j r h) h1
    rw [hR, this]; rfl
  have hend : (m.vals.zipIdx.take m.vals.length).all (fun x => valB s.waves m x.2 x.1) = true → R = (decide (m.kind = 2) || (decide (rv m.a = 0) && decide (rv m.b = 0))) := fun h => by
    rw [← hzl, all_take_all] at h
    have : valsB s.waves m = true := h
    rw [hR, this]; rfl
  clear hR
  have hv0 : (m.vals.zipIdx.take 0).all (fun x => valB s.waves m x.2 x.1) = true := rfl
  obtain ⟨A, hA⟩ : ∃ A : Nat → Prop, A = fun j => (m.vals.zipIdx.take j).all (fun x => valB s.waves m x.2 x.1) = true := ⟨_, rfl⟩
  have hAe : ∀ j, ((m.vals.zipIdx.take j).all (fun x => valB s.waves m x.2 x.1) = true) = A j := fun j => by rw [hA]
  simp only [hAe] at hst hend hv0
  clear hAe hA
  refine rq ?_
  refine LoopG.intro (σ := Nat) [1, 2, 5, 33, 34, 35] [1050, 1051] (fun j => [.d (.i .i64 (Ω .ci i)), .ptr 1050 0, .ptr 1051 0, .d (.sl (Ψ .dRs m.vals)), .d (.i .i64 (Ω .ci m.vals.length)), .d (.i .i64 (Ω .ci j))])
    (fun _ => [.var ((dSc Ψ MD FD s).map V.d), .var ((dMat Ψ m).map V.d)]) (fun j => j ≤ m.vals.length ∧ A j) (fun j => m.vals.length - j) 0 [1000, 1105]
    ⟨Nat.zero_le _, hv0⟩ ⟨rfl, rfl, rfl⟩ ?_
  rintro j ⟨hj, hAj⟩
  have hw := wrap_succ (n := j) (by omega)
  rcases Nat.lt_or_ge j m.vals.length with hlt | hge
  · obtain ⟨r, hr⟩ : ∃ r, m.vals[j]? = some r := ⟨_, List.getElem?_eq_getElem hlt⟩
    have hx2 := hx_dRs hr
    have hrn := hv r (List.mem_of_getElem? hr)
    have q0 : Ω .lt (Ω .ci j) (Ω .ci m.vals.length) = true := by simp only [wz]; omega
    have hs' := fun h => hst j r hr h hAj
    have hb' := hbad j r hr
    have gj := ge j (by omega)
    have gsj := gse j
    have g1 := gs r hrn
    have g2 := gc4 r hrn
    have g3 := gc1 r hrn
    have p1 := @qs_neg (rv r)
    have p2 := @qc_pos (rv r) (1 / 4)
    have p3 := @qc_pos (rv r) 1
    have ek : m.kind ≠ 2 → etaM s.waves m j = none := fun h => by
      rw [etaM_eq (List.getElem?_eq_getElem (show j < s.waves.length by omega)), if_neg (fun c => h c.1)]
    unfold valB at hs' hb'
    generalize etaM s.waves m j = et at *
    generalize decide (rv r < 0) = a1 at *
    generalize decide (1 / 4 < rv r) = d4 at *
    generalize decide (1 < rv r) = d1 at *
    generalize Ψ .sI (rv r) = s1 at *
    generalize Ψ .cI (rv r) (1 / 4) = s2 at *
    generalize Ψ .cI (rv r) 1 = s3 at *
    generalize Ψ .cr (1 / 4) = N4 at *
    generalize Ψ .cr 1 = N1 at *
    clear ge gse gs gc4 gc1 hst hbad hend hv hwn hz hzl hv0
    have k4 : m.kind = 0 ∨ m.kind = 1 ∨ m.kind = 2 ∨ m.kind = 3 := by omega
    cases a1 with
    | true =>
      have := hb' rfl
      subst this
      exact rq trivial
    | false =>
      rcases k4 with kk | kk | kk | kk
      · rw [kk] at hs' hb'
        have r0 : Ω .eq m.kind 0 = true := by rw [q_eq, kk]; rfl
        have r1 : Ω .eq m.kind 1 = false := by rw [q_eq, kk]; rfl
        have r2 : Ω .eq m.kind 2 = false := by rw [q_eq, kk]; rfl
        have en := ek (by omega)
        subst en
        cases d4 with
        | true =>
          have := hb' rfl
          subst this
          exact rq trivial
        | false =>
          refine rq ?_
          rw [hw]
          exact ⟨j + 1, [1050, 1051], ⟨hlt, hs' rfl⟩, by omega, rfl, rfl, rfl⟩
      · rw [kk] at hs' hb'
        have r0 : Ω .eq m.kind 0 = false := by rw [q_eq, kk]; rfl
        have r1 : Ω .eq m.kind 1 = true := by rw [q_eq, kk]; rfl
        have r2 : Ω .eq m.kind 2 = false := by rw [q_eq, kk]; rfl
        have en := ek (by omega)
        subst en
        cases d1 with
        | true =>
          have := hb' rfl
          subst this
          exact rq trivial
        | false =>
          refine rq ?_
          rw [hw]
          exact ⟨j + 1, [1050, 1051], ⟨hlt, hs' rfl⟩, by omega, rfl, rfl, rfl⟩
      · rw [kk] at hs' hb'
        have r0 : Ω .eq m.kind 0 = false := by rw [q_eq, kk]; rfl
        have r1 : Ω .eq m.kind 1 = false := by rw [q_eq, kk]; rfl
        have r2 : Ω .eq m.kind 2 = true := by rw [q_eq, kk]; rfl
        cases d1 with
        | true =>
          have := hb' (by cases et <;> rfl)
          subst this
          exact rq trivial
        | false =>
          cases et with
          | none =>
            refine rq ?_
            rw [hw]
            exact ⟨j + 1, [1050, 1051], ⟨hlt, hs' rfl⟩, by omega, rfl, rfl, rfl⟩
          | some e =>
            have g4 := gsj e rfl
            have p4 := @qs_pos e
            simp only [Option.getD_some, Option.isSome_some] at gj
            simp only at hs' hb'
            generalize decide (0 < e) = t at *
            generalize Ψ .sI e = se at *
            generalize Ψ .cr e = E at *
            cases t with
            | true =>
              refine rq ?_
              rw [hw]
              exact ⟨j + 1, [1050, 1051], ⟨hlt, hs' rfl⟩, by omega, rfl, rfl, rfl⟩
            | false =>
              have := hb' rfl
              subst this
              exact rq trivial
      · rw [kk] at hs' hb'
        have r0 : Ω .eq m.kind 0 = false := by rw [q_eq, kk]; rfl
        have r1 : Ω .eq m.kind 1 = false := by rw [q_eq, kk]; rfl
        have r2 : Ω .eq m.kind 2 = false := by rw [q_eq, kk]; rfl
        have en := ek (by omega)
        subst en
        refine rq ?_
        rw [hw]
        exact ⟨j + 1, [1050, 1051], ⟨hlt, hs' rfl⟩, by omega, rfl, rfl, rfl⟩
  · obtain rfl : j = m.vals.length := by omega
    have q0 : Ω .lt (Ω .ci m.vals.length) (Ω .ci m.vals.length) = false := by simp only [wz]; omega
    rw [hend hAj]
    have z1 := @qs_zero (rv m.a)
    have z2 := @qs_zero (rv m.b)
    have z3 : Ω .eq m.kind 2 = decide (m.kind = 2) := q_eq
    generalize decide (rv m.a = 0) = t1 at *
    generalize decide (rv m.b = 0) = t2 at *
    generalize decide (m.kind = 2) = t3 at *
    generalize Ψ .sI (rv m.a) = s1 at *
    generalize Ψ .sI (rv m.b) = s2 at *
    clear ge gse gs gc4 gc1 hst hbad hend hv hwn hz hzl hv0
    cases t3 <;> cases t1 <;> cases t2
    all_goals exact rq trivial
end Go.K.S
end
section
namespace Go.K.S
open Go Go.K
set_option maxHeartbeats 8000000
set_option maxRecDepth 20000
theorem sizes_good (s : ScL) {MD FD : List D} (hD : ScD s MD FD) {k : Nat} (hs : Scn k s) (hk0 : 0 < k) (hk : k < 137438953472) :
    Good P F.scene_sizes [.d (.agg (dSc Ψ MD FD s))] [] (.d (.b (sizesS s))) [] := by
  refine G.scene_sizes fun C C2 hC hC2 => ?_
  have g1 := fits_good s.waves hs.wv hk0 hk (by have := hs.wl; omega)
  have g2 := fit_good [s.eye, s.look] (k := k) (fun r h => (mem2 h).elim (fun e => e ▸ hs.e) fun e => e ▸ hs.l) hk0 hk (by simp)
  have e2 : Ψ .dVs [s.eye, s.look] = [.agg (dV Ψ s.eye), .agg (dV Ψ s.look)] := rfl
  have e2' : [s.eye, s.look].all fitV = (fitV s.eye && fitV s.look) := by simp
  rw [e2, e2'] at g2
  have g3 := fits_good [s.half] (k := k) (fun r h => (List.mem_singleton.1 h) ▸ hs.hf) hk0 hk (by simp)
  have e3 : Ψ .dRs [s.half] = [.agg (dR Ψ s.half)] := rfl
  have e3' : [s.half].all fitR = fitR s.half := by simp
  rw [e3, e3'] at g3
  have eR : sizesS s = ((s.waves.all fitR && ((fitV s.eye && fitV s.look) && fitR s.half)) && (s.mats.all fitM && s.faces.all fitF)) := by
    unfold sizesS
    simp only [Bool.and_assoc]
  rw [eR]
  clear eR e2 e2' e3 e3'
  have hmD := hD.m
  have hml := hD.ml
  have hfD := hD.f
  have hfl := hD.fl
  have hmn := hs.ml
  have hfn := hs.fl
  have gM : ∀ i, i < s.mats.length → ∃ m, Ω .sget MD i = some (.agg (dMat Ψ m)) ∧ Good P F.scene_fits [.d (.sl (Ψ .dRs m.vals))] [] (.d (.b (m.vals.all fitR))) [] ∧ Good P F.scene_fits [.d (.sl [.agg (dR Ψ m.a), .agg (dR Ψ m.b)])] [] (.d (.b (fitR m.a && fitR m.b))) []
      ∧ (s.mats.take (i + 1)).all fitM = ((s.mats.take i).all fitM && (m.vals.all fitR && (fitR m.a && fitR m.b))) := fun i hi => by
    obtain ⟨m, hm⟩ : ∃ m, s.mats[i]? = some m := ⟨_, List.getElem?_eq_getElem hi⟩
    have hmm := hs.mv m (List.mem_of_getElem? hm)
    refine ⟨m, hmD i m hm, fits_good m.vals hmm.v hk0 hk (by have := hmm.l; omega), ?_, all_take_succ hm⟩
    have g := fits_good [m.a, m.b] (k := k) (fun r h => (mem2 h).elim (fun e => e ▸ hmm.a) fun e => e ▸ hmm.b) hk0 hk (by simp)
    have e : [m.a, m.b].all fitR = (fitR m.a && fitR m.b) := by simp
    rw [e] at g
    exact g
  have gF : ∀ i, i < s.faces.length → ∃ f, Ω .sget FD i = some (.agg (dFace Ψ f)) ∧ Good P F.scene_fit [.d (.sl [.agg (dV Ψ f.tri.a), .agg (dV Ψ f.tri.b), .agg (dV Ψ f.tri.c)])] [] (.d (.b (fitF f))) []
      ∧ (s.faces.take (i + 1)).all fitF = ((s.faces.take i).all fitF && fitF f) := fun i hi => by
    obtain ⟨m, hm⟩ : ∃ m, s.faces[i]? = some m := ⟨_, List.getElem?_eq_getElem hi⟩
    have hmm := hs.fv m (List.mem_of_getElem? hm)
    refine ⟨m, hfD i m hm, ?_, all_take_succ hm⟩
    have g := fit_good [m.tri.a, m.tri.b, m.tri.c] (k := k) (fun r h => (mem3 h).elim (fun e => e ▸ hmm.t.a) fun h => h.elim (fun e => e ▸ hmm.t.b) fun e => e ▸ hmm.t.c) hk0 hk (by simp)
    have e : [m.tri.a, m.tri.b, m.tri.c].all fitV = fitF m := by simp [fitF]
    rw [e] at g
    exact g
  have eM0 : (s.mats.take 0).all fitM = true := rfl
  have eF0 : (s.faces.take 0).all fitF = true := rfl
  have eM1 : (s.mats.take s.mats.length).all fitM = s.mats.all fitM := all_take_all
  have eF1 : (s.faces.take s.faces.length).all fitF = s.faces.all fitF := all_take_all
  obtain ⟨AM, hAM⟩ : ∃ AM : Nat → Bool, AM = fun i => (s.mats.take i).all fitM := ⟨_, rfl⟩
  obtain ⟨AF, hAF⟩ : ∃ AF : Nat → Bool, AF = fun i => (s.faces.take i).all fitF := ⟨_, rfl⟩
  have fM : ∀ i, (s.mats.take i).all fitM = AM i := fun i => by rw [hAM]
  have fF : ∀ i, (s.faces.take i).all fitF = AF i := fun i => by rw [hAF]
  simp only [fM] at gM eM0 eM1
  simp only [fF] at gF eF0 eF1
  rw [← eM1, ← eF1]
  clear fM fF hAM hAF eM1 eF1 hD hs hmD hfD
  generalize s.mats.length = nm at *
  generalize s.faces.length = nf at *
  generalize s.waves.all fitR = c1 at *
  generalize (fitV s.eye && fitV s.look) = c2 at *
  generalize fitR s.half = c3 at *
  obtain ⟨base, hbase⟩ : ∃ b, b = (c1 && (c2 && c3)) := ⟨_, rfl⟩
  rw [← hbase]
  cases c1 <;> cases c2 <;> cases c3
  all_goals
    refine rq ?_
    rw [hml]
    refine LoopG.intro (σ := Nat × Bool) [1, 3, 29, 30, 31] [1050] (fun i => [.ptr 1050 0, .d (.b i.2), .d (.sl MD), .d (.i .i64 (Ω .ci nm)), .d (.i .i64 (Ω .ci i.1))]) (fun _ => [.var ((dSc Ψ MD FD s).map V.d)]) (fun i => i.1 ≤ nm ∧ i.2 = (base && AM i.1)) (fun i => nm - i.1) (0, base) [1000]
      ⟨Nat.zero_le _, by simp [eM0]⟩ ⟨rfl, (by rw [hbase]; rfl), rfl⟩ ?_
    clear hbase g1 g2 g3
    rintro ⟨i, A⟩ ⟨hi, hA⟩
    simp only at hi hA
    rcases Nat.lt_or_ge i nm with hlt | hge
    · obtain ⟨m, h1, h2, h3, h4⟩ := gM i hlt
      have q0 : Ω .lt (Ω .ci i) (Ω .ci nm) = true := by simp only [wz]; omega
      generalize m.vals.all fitR = d1 at *
      generalize (fitR m.a && fitR m.b) = d2 at *
      have hw := wrap_succ (n := i) (by omega)
      obtain ⟨N, hN⟩ : ∃ N, N = (A && (d1 && d2)) := ⟨_, rfl⟩
      have hN2 : N = (base && AM (i + 1)) := by rw [hN, hA, h4, Bool.and_assoc]
      clear h4 hA gM gF
      cases A <;> cases d1 <;> cases d2
      all_goals
        refine rq ?_
        rw [hw]
        exact ⟨(i + 1, N), [1050], ⟨hlt, hN2⟩, by simp only; omega, rfl, by rw [hN]; rfl, rfl⟩
    · obtain rfl : i = nm := by omega
      have q0 : Ω .lt (Ω .ci i) (Ω .ci i) = false := by simp only [wz]; omega
      have fin' : (base && (AM i && AF nf)) = (A && AF nf) := by rw [hA, Bool.and_assoc]
      rw [fin']
      clear fin' hA gM
      refine rq ?_
      rw [hfl]
      refine LoopG.intro (σ := Nat × Bool) [1, 3, 51, 52, 53] [1050] (fun i => [.ptr 1050 0, .d (.b i.2), .d (.sl FD), .d (.i .i64 (Ω .ci nf)), .d (.i .i64 (Ω .ci i.1))]) (fun _ => [.var ((dSc Ψ MD FD s).map V.d)]) (fun i => i.1 ≤ nf ∧ i.2 = (A && AF i.1)) (fun i => nf - i.1) (0, A) [1050]
        ⟨Nat.zero_le _, by simp [eF0]⟩ ⟨rfl, rfl, rfl⟩ ?_
      rintro ⟨j, B⟩ ⟨hj, hB⟩
      simp only at hj hB
      rcases Nat.lt_or_ge j nf with hlt | hge
      · obtain ⟨m, h1, h2, h4⟩ := gF j hlt
        have q0 : Ω .lt (Ω .ci j) (Ω .ci nf) = true := by simp only [wz]; omega
        generalize fitF m = d1 at *
        have hw := wrap_succ (n := j) (by omega)
        obtain ⟨N, hN⟩ : ∃ N, N = (B && d1) := ⟨_, rfl⟩
        have hN2 : N = (A && AF (j + 1)) := by rw [hN, hB, h4, Bool.and_assoc]
        clear h4 hB gF
        cases B <;> cases d1
        all_goals
          refine rq ?_
          rw [hw]
          exact ⟨(j + 1, N), [1050], ⟨hlt, hN2⟩, by simp only; omega, rfl, by rw [hN]; rfl, rfl⟩
      · obtain rfl : j = nf := by omega
        have q0 : Ω .lt (Ω .ci j) (Ω .ci j) = false := by simp only [wz]; omega
        rw [← hB]
        exact rq trivial
end Go.K.S
end
section
namespace Go.K
open Go
theorem all_of {α : Type} {l : List α} {p : α → Bool} (h : l.all p = true) {x : α} (hx : x ∈ l) : p x = true := List.all_eq_true.1 h x hx
structure Sc2 (s : ScL) : Prop where
  wv : ∀ r, r ∈ s.waves → Rn 2 r
  mv : ∀ m, m ∈ s.mats → (∀ r, r ∈ m.vals → Rn 2 r) ∧ Rn 2 m.a ∧ Rn 2 m.b
  fv : ∀ f, f ∈ s.faces → Tn 2 f.tri
  e : Vn 2 s.eye
  l : Vn 2 s.look
  hf : Rn 2 s.half
theorem sc2_of {s : ScL} (h : sizesS s = true) : Sc2 s := by
  unfold sizesS at h
  simp only [Bool.and_eq_true] at h
  obtain ⟨⟨h1, h2, h3, h4⟩, h5, h6⟩ := h
  refine ⟨fun r hr => fitR_n (all_of h1 hr), fun m hm => ?_, fun f hf => fitF_n (all_of h6 hf), fitV_n h2, fitV_n h3, fitR_n h4⟩
  have := all_of h5 hm
  unfold fitM at this
  simp only [Bool.and_eq_true] at this
  exact ⟨fun r hr => fitR_n (all_of this.1 hr), fitR_n this.2.1, fitR_n this.2.2⟩
theorem q_lt' {a b : Int} : Ω .lt a b = decide (a < b) := rfl
theorem q_le' {a b : Int} : Ω .le a b = decide (a ≤ b) := rfl
end Go.K
namespace Go.K.S
open Go Go.K
set_option maxHeartbeats 8000000
set_option maxRecDepth 20000
theorem scheck_good (s : ScL) {MD FD : List D} (hD : ScD s MD FD) {k : Nat} (hs : Scn k s) (hk0 : 0 < k) (hk : k < 137438953472) :
    Good P F.scene_Check [.d (.agg (dSc Ψ MD FD s))] [] (.d (.i .i64 (checkS s))) [] := by
  refine G.scene_Check fun C C2 hC hC2 => ?_
  have g1 := sizes_good s hD hs hk0 hk
  have hml := hD.ml
  have hfl := hD.fl
  obtain ⟨R, hR⟩ : ∃ R, R = checkS s := ⟨_, rfl⟩
  rw [← hR]
  unfold checkS at hR
  by_cases hm : manyB s = false
  · rw [if_pos hm] at hR
    subst hR
    clear g1
    unfold manyB at hm
    by_cases c1 : 1 ≤ s.waves.length
    rotate_left
    · have q1 : Ω .lt (Ω .ci s.waves.length) 1 = true := by simp only [wz]; omega
      exact rq trivial
    have q1 : Ω .lt (Ω .ci s.waves.length) 1 = false := by simp only [wz]; omega
    by_cases c2 : s.waves.length ≤ 8
    rotate_left
    · have q2 : Ω .lt 8 (Ω .ci s.waves.length) = true := by simp only [wz]; omega
      exact rq trivial
    have q2 : Ω .lt 8 (Ω .ci s.waves.length) = false := by simp only [wz]; omega
    by_cases c3 : s.mats.length ≤ 32
    rotate_left
    · have q3 : Ω .lt 32 (Ω .ci (Ω .slen MD)) = true := by rw [hml]; simp only [wz]; omega
      exact rq trivial
    have q3 : Ω .lt 32 (Ω .ci (Ω .slen MD)) = false := by rw [hml]; simp only [wz]; omega
    by_cases c4 : 1 ≤ s.faces.length
    rotate_left
    · have q4 : Ω .lt (Ω .ci (Ω .slen FD)) 1 = true := by rw [hfl]; simp only [wz]; omega
      exact rq trivial
    have q4 : Ω .lt (Ω .ci (Ω .slen FD)) 1 = false := by rw [hfl]; simp only [wz]; omega
    by_cases c5 : s.faces.length ≤ 64
    rotate_left
    · have q5 : Ω .lt 64 (Ω .ci (Ω .slen FD)) = true := by rw [hfl]; simp only [wz]; omega
      exact rq trivial
    rw [decide_eq_true c1, decide_eq_true c2, decide_eq_true c3, decide_eq_true c4, decide_eq_true c5] at hm
    exact nomatch hm
  rw [if_neg hm] at hR
  have hm' : manyB s = true := by simpa using hm
  unfold manyB at hm'
  simp only [Bool.and_eq_true, decide_eq_true_eq] at hm'
  obtain ⟨c1, c2, c3, c4, c5⟩ := hm'
  have q1 : Ω .lt (Ω .ci s.waves.length) 1 = false := by simp only [wz]; omega
  have q2 : Ω .lt 8 (Ω .ci s.waves.length) = false := by simp only [wz]; omega
  have q3 : Ω .lt 32 (Ω .ci (Ω .slen MD)) = false := by rw [hml]; simp only [wz]; omega
  have q4 : Ω .lt (Ω .ci (Ω .slen FD)) 1 = false := by rw [hfl]; simp only [wz]; omega
  have q5 : Ω .lt 64 (Ω .ci (Ω .slen FD)) = false := by rw [hfl]; simp only [wz]; omega
  clear hm
  by_cases hz : sizesS s = false
  · rw [if_pos hz] at hR
    subst hR
    rw [hz] at g1
    exact rq trivial
  rw [if_neg hz] at hR
  have hz' : sizesS s = true := by simpa using hz
  rw [hz'] at g1
  have h2 := sc2_of hz'
  clear hz hz'
  have gw : ∀ r, r ∈ s.waves → Good P F.rat_Sign [.d (.agg (dR Ψ r))] [] (.d (.i .i64 (Ψ .sI (rv r)))) [] := fun r hr => sign_good r (h2.wv r hr) (by omega)
  obtain ⟨AW, hAW⟩ : ∃ A : Nat → Prop, A = fun i => (s.waves.take i).all (fun x => decide (0 < rv x)) = true := ⟨_, rfl⟩
  have w0 : AW 0 := by rw [hAW]; rfl
  have w1 : ∀ i r, s.waves[i]? = some r → 0 < rv r → AW i → AW (i + 1) := fun i r h h1 h2 => by
    rw [hAW] at h2 ⊢
    simp only at h2 ⊢
    rw [all_take_succ h, h2, decide_eq_true h1]; rfl
  have w2 : ∀ i r, s.waves[i]? = some r → ¬ 0 < rv r → R = 98 := fun i r h h1 => by
    rw [hR, if_pos (all_false_of h (decide_eq_false h1))]
  have w3 : AW s.waves.length → (s.waves.all fun x => decide (0 < rv x)) = true := fun h => by
    rw [hAW] at h
    rw [← all_take_all]; exact h
  clear hAW
  refine rq ?_
  refine LoopG.intro (σ := Nat) [1, 43, 44, 45] [1050] (fun i => [.ptr 1050 0, .d (.sl (Ψ .dRs s.waves)), .d (.i .i64 (Ω .ci s.waves.length)), .d (.i .i64 (Ω .ci i))]) (fun _ => [.var ((dSc Ψ MD FD s).map V.d)]) (fun i => i ≤ s.waves.length ∧ AW i) (fun i => s.waves.length - i) 0 [1000]
    ⟨Nat.zero_le _, w0⟩ ⟨rfl, rfl, rfl⟩ ?_
  rintro i ⟨hi, hA⟩
  have hw := wrap_succ (n := i) (by omega)
  rcases Nat.lt_or_ge i s.waves.length with hlt | hge
  · obtain ⟨r, hr⟩ : ∃ r, s.waves[i]? = some r := ⟨_, List.getElem?_eq_getElem hlt⟩
    have hx := hx_dRs hr
    have q0 : Ω .lt (Ω .ci i) (Ω .ci s.waves.length) = true := by simp only [wz]; omega
    have g := gw r (List.mem_of_getElem? hr)
    have p := @qs_pos (rv r)
    by_cases hp : 0 < rv r
    · rw [decide_eq_true hp] at p
      have := w1 i r hr hp hA
      generalize Ψ .sI (rv r) = s1 at *
      clear w1 w2 w3 gw
      refine rq ?_
      rw [hw]
      exact ⟨i + 1, [1050], ⟨hlt, this⟩, by omega, rfl, rfl, rfl⟩
    · rw [decide_eq_false hp] at p
      have := w2 i r hr hp
      subst this
      generalize Ψ .sI (rv r) = s1 at *
      clear w1 w2 w3 gw
      exact rq trivial
  obtain rfl : i = s.waves.length := by omega
  have q0 : Ω .lt (Ω .ci s.waves.length) (Ω .ci s.waves.length) = false := by simp only [wz]; omega
  rw [if_neg (by rw [w3 hA]; exact fun h => nomatch h)] at hR
  clear w0 w1 w2 w3 gw hw hi hA
  have gm : ∀ (j : Nat) (h : j < s.mats.length), Good P F.scene_material [.d (.agg (dSc Ψ MD FD s)), .d (.i .i64 (Ω .ci j))] [] (.d (.b (matB s.waves s.mats[j]))) [] := fun j h => by
    have hv := h2.mv _ (List.getElem_mem h)
    exact material_good s hD (List.getElem?_eq_getElem h) hv.1 hv.2.1 hv.2.2 h2.wv (by omega) (by omega) (by omega)
  obtain ⟨AM, hAM⟩ : ∃ A : Nat → Prop, A = fun i => (s.mats.take i).all (matB s.waves) = true := ⟨_, rfl⟩
  have w0 : AM 0 := by rw [hAM]; rfl
  have w1 : ∀ i (h : i < s.mats.length), matB s.waves s.mats[i] = true → AM i → AM (i + 1) := fun i h h1 h2 => by
    rw [hAM] at h2 ⊢
    simp only at h2 ⊢
    rw [all_take_succ (List.getElem?_eq_getElem h), h2, h1]; rfl
  have w2 : ∀ i (h : i < s.mats.length), matB s.waves s.mats[i] = false → R = 98 := fun i h h1 => by
    rw [hR, if_pos (all_false_of (List.getElem?_eq_getElem h) h1)]
  have w3 : AM s.mats.length → s.mats.all (matB s.waves) = true := fun h => by
    rw [hAM] at h
    rw [← all_take_all]; exact h
  clear hAM
  refine rq ?_
  rw [hml]
  refine LoopG.intro (σ := Nat) [1, 55, 56] [1050] (fun i => [.ptr 1050 0, .d (.i .i64 (Ω .ci s.mats.length)), .d (.i .i64 (Ω .ci i))]) (fun _ => [.var ((dSc Ψ MD FD s).map V.d)]) (fun i => i ≤ s.mats.length ∧ AM i) (fun i => s.mats.length - i) 0 [1050]
    ⟨Nat.zero_le _, w0⟩ ⟨rfl, rfl, rfl⟩ ?_
  rintro j ⟨hj, hA⟩
  have hw := wrap_succ (n := j) (by omega)
  rcases Nat.lt_or_ge j s.mats.length with hlt | hge
  · have q0' : Ω .lt (Ω .ci j) (Ω .ci s.mats.length) = true := by simp only [wz]; omega
    have g := gm j hlt
    have v1 := fun h => w1 j hlt h hA
    have v2 := w2 j hlt
    generalize matB s.waves s.mats[j] = b at *
    clear w1 w2 w3 gm
    cases b with
    | true =>
      refine rq ?_
      rw [hw]
      exact ⟨j + 1, [1050], ⟨hlt, v1 rfl⟩, by omega, rfl, rfl, rfl⟩
    | false =>
      have := v2 rfl
      subst this
      exact rq trivial
  obtain rfl : j = s.mats.length := by omega
  have q0' : Ω .lt (Ω .ci s.mats.length) (Ω .ci s.mats.length) = false := by simp only [wz]; omega
  rw [if_neg (by rw [w3 hA]; exact fun h => nomatch h)] at hR
  clear w0 w1 w2 w3 gm hw hj hA
  obtain ⟨AF, hAF⟩ : ∃ A : Nat → Prop, A = fun i => (s.faces.take i).all (faceB s.mats.length) = true := ⟨_, rfl⟩
  have w0 : AF 0 := by rw [hAF]; rfl
  have w1 : ∀ i f, s.faces[i]? = some f → faceB s.mats.length f = true → AF i → AF (i + 1) := fun i f h h1 h2 => by
    rw [hAF] at h2 ⊢
    simp only at h2 ⊢
    rw [all_take_succ h, h2, h1]; rfl
  have w2 : ∀ i f, s.faces[i]? = some f → faceB s.mats.length f = false → R = 99 := fun i f h h1 => by
    rw [hR, if_pos (all_false_of h h1)]
  have w3 : AF s.faces.length → s.faces.all (faceB s.mats.length) = true := fun h => by
    rw [hAF] at h
    rw [← all_take_all]; exact h
  clear hAF
  refine rq ?_
  rw [hfl]
  refine LoopG.intro (σ := Nat) [1, 65, 66, 67] [1050] (fun i => [.ptr 1050 0, .d (.sl FD), .d (.i .i64 (Ω .ci s.faces.length)), .d (.i .i64 (Ω .ci i))]) (fun _ => [.var ((dSc Ψ MD FD s).map V.d)]) (fun i => i ≤ s.faces.length ∧ AF i) (fun i => s.faces.length - i) 0 [1050]
    ⟨Nat.zero_le _, w0⟩ ⟨rfl, rfl, rfl⟩ ?_
  rintro i ⟨hi, hA⟩
  have hw := wrap_succ (n := i) (by omega)
  rcases Nat.lt_or_ge i s.faces.length with hlt | hge
  · obtain ⟨f, hf⟩ : ∃ f, s.faces[i]? = some f := ⟨_, List.getElem?_eq_getElem hlt⟩
    have hx := hD.f i f hf
    have q0 : Ω .lt (Ω .ci i) (Ω .ci s.faces.length) = true := by simp only [wz]; omega
    have g := tunit_good f.tri (h2.fv f (List.mem_of_getElem? hf)) (by omega) (by omega)
    have v1 := fun h => w1 i f hf h hA
    have v2 := w2 i f hf
    unfold faceB at v1 v2
    have r1 : Ω .lt f.mat 0 = !decide (0 ≤ f.mat) := by rw [q_lt']; by_cases h : 0 ≤ f.mat <;> simp [h] <;> omega
    have r2 : Ω .le (Ω .ci (Ω .slen MD)) f.mat = !decide (f.mat < (s.mats.length : Int)) := by rw [hml, q_le', w_ci]; by_cases h : f.mat < (s.mats.length : Int) <;> simp [h] <;> omega
    generalize Ψ .cV (unitR (normS (tv f.tri))).1 = U at *
    generalize Ψ .cr ((unitR (normS (tv f.tri))).2 * (1 / 2)) = L at *
    generalize (unitS (normS (tv f.tri))).isSome = ok at *
    generalize decide (0 ≤ f.mat) = t1 at *
    generalize decide (f.mat < (s.mats.length : Int)) = t2 at *
    clear w1 w2 w3
    cases ok with
    | false =>
      have := v2 rfl
      subst this
      exact rq trivial
    | true =>
      cases t1 with
      | false =>
        have := v2 rfl
        subst this
        exact rq trivial
      | true =>
        cases t2 with
        | false =>
          have := v2 rfl
          subst this
          exact rq trivial
        | true =>
          refine rq ?_
          rw [hw]
          exact ⟨i + 1, [1050], ⟨hlt, v1 rfl⟩, by omega, rfl, rfl, rfl⟩
  obtain rfl : i = s.faces.length := by omega
  have q0 : Ω .lt (Ω .ci s.faces.length) (Ω .ci s.faces.length) = false := by simp only [wz]; omega
  rw [if_neg (by rw [w3 hA]; exact fun h => nomatch h)] at hR
  clear w0 w1 w2 w3 hw hi hA
  have gd := vdot_good s.look s.look h2.l h2.l (by omega) (by omega)
  have qd := Qn_dot (Pn_vv h2.l (by omega)) (Pn_vv h2.l (by omega)) (by omega)
  have g11 := of11_good
  have gsm := rsame_good (Ψ .cr (vdot (vv s.look) (vv s.look))) (Ψ .cr 1) (Rn_cr.2 qd) (Rn_cr.2 Qn_one') (by omega) (by omega)
  rw [rv_cr, rv_cr] at gsm
  have gh := sign_good s.half h2.hf (by omega)
  have ph := @qs_pos (rv s.half)
  have p1 : Ω .lt s.w 1 = !decide (1 ≤ s.w) := by rw [q_lt']; by_cases h : 1 ≤ s.w <;> simp [h] <;> omega
  have p2 : Ω .lt 16 s.w = !decide (s.w ≤ 16) := by rw [q_lt']; by_cases h : s.w ≤ 16 <;> simp [h] <;> omega
  have p3 : Ω .lt s.h 1 = !decide (1 ≤ s.h) := by rw [q_lt']; by_cases h : 1 ≤ s.h <;> simp [h] <;> omega
  have p4 : Ω .lt 16 s.h = !decide (s.h ≤ 16) := by rw [q_lt']; by_cases h : s.h ≤ 16 <;> simp [h] <;> omega
  unfold viewB at hR
  generalize decide (vdot (vv s.look) (vv s.look) = 1) = b0 at *
  generalize decide (1 ≤ s.w) = b1 at *
  generalize decide (s.w ≤ 16) = b2 at *
  generalize decide (1 ≤ s.h) = b3 at *
  generalize decide (s.h ≤ 16) = b4 at *
  generalize decide (0 < rv s.half) = b5 at *
  generalize Ψ .sI (rv s.half) = sh at *
  generalize Ψ .cr (vdot (vv s.look) (vv s.look)) = dd at *
  generalize Ψ .cr 1 = N1 at *
  clear qd hD hs h2
  cases b0 with
  | false => simp only [Bool.false_and, if_true] at hR; subst hR; exact rq trivial
  | true =>
  cases b1 with
  | false => simp only [Bool.false_and, Bool.and_false, if_true] at hR; subst hR; exact rq trivial
  | true =>
  cases b2 with
  | false => simp only [Bool.false_and, Bool.and_false, if_true] at hR; subst hR; exact rq trivial
  | true =>
  cases b3 with
  | false => simp only [Bool.false_and, Bool.and_false, if_true] at hR; subst hR; exact rq trivial
  | true =>
  cases b4 with
  | false => simp only [Bool.false_and, Bool.and_false, if_true] at hR; subst hR; exact rq trivial
  | true =>
  cases b5 with
  | false => simp only [Bool.false_and, Bool.and_false, if_true] at hR; subst hR; exact rq trivial
  | true =>
    simp only [Bool.and_true, Bool.true_eq_false, if_false] at hR
    subst hR
    exact rq trivial
end Go.K.S
end
section
namespace Go.K
open Go
def nums3 (v : VL) : List RL := [v.x, v.y, v.z]
def allM (m : MatL) : List RL := m.vals ++ [m.a, m.b]
def allF (f : FaceL) : List RL := [f.tri.a.x, f.tri.a.y, f.tri.a.z, f.tri.b.x, f.tri.b.y, f.tri.b.z, f.tri.c.x, f.tri.c.y, f.tri.c.z]
def all1 (s : ScL) (i : Nat) : List RL := s.waves ++ [s.eye.x, s.eye.y, s.eye.z, s.look.x, s.look.y, s.look.z, s.half] ++ (s.mats.take i).flatMap allM
def all2 (s : ScL) (i : Nat) : List RL := all1 s s.mats.length ++ (s.faces.take i).flatMap allF
def allL (s : ScL) : List RL := all2 s s.faces.length
theorem cells_l {l : List D} {n : Nat} (h : l.all (fun u => Nat.beq u.cells.length n) = true) : ∀ u ∈ l, u.cells.length = n := fun u hu => Nat.eq_of_beq_eq_true (List.all_eq_true.1 h u hu)
theorem all1_succ {s : ScL} {i : Nat} {m : MatL} (h : s.mats[i]? = some m) : all1 s (i + 1) = all1 s i ++ m.vals ++ [m.a, m.b] := by
  unfold all1
  rw [take_succ_of h, List.flatMap_append]
  simp [allM, List.append_assoc]
theorem all2_succ {s : ScL} {i : Nat} {f : FaceL} (h : s.faces[i]? = some f) : all2 s (i + 1) = all2 s i ++ allF f := by
  unfold all2
  rw [take_succ_of h, List.flatMap_append]
  simp [List.append_assoc]
theorem all1_len {s : ScL} {k : Nat} (h : ∀ m, m ∈ s.mats → m.vals.length ≤ k) (i : Nat) (hi : i ≤ s.mats.length) : (all1 s i).length ≤ s.waves.length + 7 + i * (k + 2) := by
  induction i with
  | zero => simp [all1]
  | succ i ih =>
    obtain ⟨m, hm⟩ : ∃ m, s.mats[i]? = some m := ⟨_, List.getElem?_eq_getElem (by omega)⟩
    have h1 := h m (List.mem_of_getElem? hm)
    have := ih (by omega)
    rw [all1_succ hm, List.length_append, List.length_append, Nat.add_mul]
    simp only [List.length_cons, List.length_nil]
    omega
theorem all2_len {s : ScL} {n : Nat} (h : (all1 s s.mats.length).length ≤ n) (i : Nat) (hi : i ≤ s.faces.length) : (all2 s i).length ≤ n + i * 9 := by
  induction i with
  | zero => simp [all2]; omega
  | succ i ih =>
    obtain ⟨m, hm⟩ : ∃ m, s.faces[i]? = some m := ⟨_, List.getElem?_eq_getElem (by omega)⟩
    have := ih (by omega)
    rw [all2_succ hm, List.length_append]
    simp only [allF, List.length_cons, List.length_nil]
    omega
theorem allL_fit (s : ScL) : (allL s).all fitR = sizesS s := by
  unfold allL all2 all1 sizesS
  rw [List.take_length, List.take_length]
  simp only [List.all_append, List.all_flatMap]
  have e1 : (fun m => (allM m).all fitR) = fitM := by
    funext m
    simp [allM, fitM, List.all_append]
  have e2 : (fun m => (allF m).all fitR) = fitF := by
    funext m
    simp [allF, fitF, fitV, Bool.and_assoc]
  rw [e1, e2]
  simp [fitV, Bool.and_assoc]
theorem allL_n {s : ScL} {k : Nat} (h : Scn k s) : ∀ r, r ∈ allL s → Rn k r := by
  intro r hr
  unfold allL all2 all1 at hr
  rw [List.take_length, List.take_length] at hr
  simp only [List.mem_append, List.mem_flatMap, List.mem_cons, List.not_mem_nil, or_false] at hr
  rcases hr with ((hr | hr) | ⟨m, hm, hr⟩) | ⟨f, hf, hr⟩
  · exact h.wv r hr
  · rcases hr with rfl | rfl | rfl | rfl | rfl | rfl | rfl
    · exact h.e.x
    · exact h.e.y
    · exact h.e.z
    · exact h.l.x
    · exact h.l.y
    · exact h.l.z
    · exact h.hf
  · have := h.mv m hm
    simp only [allM, List.mem_append, List.mem_cons, List.not_mem_nil, or_false] at hr
    rcases hr with hr | rfl | rfl
    · exact this.v r hr
    · exact this.a
    · exact this.b
  · have := (h.fv f hf).t
    simp only [allF, List.mem_cons, List.not_mem_nil, or_false] at hr
    rcases hr with rfl | rfl | rfl | rfl | rfl | rfl | rfl | rfl | rfl
    · exact this.a.x
    · exact this.a.y
    · exact this.a.z
    · exact this.b.x
    · exact this.b.y
    · exact this.b.z
    · exact this.c.x
    · exact this.c.y
    · exact this.c.z
end Go.K
namespace Go.K.S
open Go Go.K
set_option maxHeartbeats 8000000
set_option maxRecDepth 20000
theorem all9_good (s : ScL) {MD FD : List D} (hD : ScD s MD FD) {k : Nat} (hv : ∀ m, m ∈ s.mats → m.vals.length ≤ k) (hk : k < 134217728) (h1 : s.waves.length ≤ 8) (h2 : s.mats.length ≤ 32) (h3 : s.faces.length ≤ 64) :
    Good P F.penumbraref09_all [.d (.agg (dSc Ψ MD FD s))] [] (.d (.sl (Ψ .dRs (allL s)))) [] := by
  refine G.penumbraref09_all fun C C2 hC hC2 => ?_
  have hml := hD.ml
  have hfl := hD.fl
  have b1 := all1_len hv
  have b1' : ∀ i, i ≤ s.mats.length → (all1 s i).length ≤ 15 + 32 * 134217730 := fun i hi => by
    have := b1 i hi
    have h4 : i * (k + 2) ≤ 32 * 134217730 := Nat.mul_le_mul (by omega) (by omega)
    omega
  have b2 := all2_len (b1' s.mats.length (Nat.le_refl _))
  have hm : ∀ i, i < s.mats.length → ∃ m, Ω .sget MD i = some (.agg (dMat Ψ m)) ∧ m.vals.length ≤ k ∧ Ω .scat (Ω .scat (Ψ .dRs (all1 s i)) (Ψ .dRs m.vals)) [.agg (dR Ψ m.a), .agg (dR Ψ m.b)] = Ψ .dRs (all1 s (i + 1)) := fun i hi => by
    obtain ⟨m, hm⟩ : ∃ m, s.mats[i]? = some m := ⟨_, List.getElem?_eq_getElem hi⟩
    refine ⟨m, hD.m i m hm, hv m (List.mem_of_getElem? hm), ?_⟩
    rw [all1_succ hm, scat_dRs, ← scat_dRs (all1 s i ++ m.vals) [m.a, m.b]]; rfl
  have hf : ∀ i, i < s.faces.length → ∃ f, Ω .sget FD i = some (.agg (dFace Ψ f)) ∧ Ω .scat (Ψ .dRs (all2 s i)) ((allF f).map fun r => .agg (dR Ψ r)) = Ψ .dRs (all2 s (i + 1)) := fun i hi => by
    obtain ⟨f, hf⟩ : ∃ m, s.faces[i]? = some m := ⟨_, List.getElem?_eq_getElem hi⟩
    refine ⟨f, hD.f i f hf, ?_⟩
    rw [all2_succ hf, ← scat_dRs]; rfl
  have e0 : Ω .scat (Ω .scat [] (Ψ .dRs s.waves)) [.agg (dR Ψ s.eye.x), .agg (dR Ψ s.eye.y), .agg (dR Ψ s.eye.z), .agg (dR Ψ s.look.x), .agg (dR Ψ s.look.y), .agg (dR Ψ s.look.z), .agg (dR Ψ s.half)] = Ψ .dRs (all1 s 0) := by
    rw [show (Ω .scat [] (Ψ .dRs s.waves)) = Ψ .dRs s.waves from rfl]
    have : all1 s 0 = s.waves ++ [s.eye.x, s.eye.y, s.eye.z, s.look.x, s.look.y, s.look.z, s.half] := by simp [all1]
    rw [this, ← scat_dRs]; rfl
  have e1 : all2 s 0 = all1 s s.mats.length := by simp [all2]
  have e2 : all2 s s.faces.length = allL s := rfl
  rw [← e2]
  clear e2 hD b1
  generalize all1 s = L1 at *
  generalize all2 s = L2 at *
  generalize s.mats.length = nm at *
  generalize s.faces.length = nf at *
  refine rq ?_
  refine ⟨cells_l rfl, (by simp only [wz, slen_scat]; omega), ?_⟩
  refine LoopG.intro (σ := Nat) [1, 3, 4] [1050, 1051] (fun i => [.ptr 1050 0, .own 1051 3, .d (.i .i64 (Ω .ci i))]) (fun i => [.var ((dSc Ψ MD FD s).map V.d), .row true T.api_Rat 3 (Ψ .dRs (L1 i))]) (fun i => i ≤ nm) (fun i => nm - i) 0 [1000, 1229]
    (Nat.zero_le _) ⟨rfl, rfl, (by rw [← e0]; rfl)⟩ ?_
  intro i hi
  have hw := wrap_succ (n := i) (by omega)
  rcases Nat.lt_or_ge i nm with hlt | hge
  · obtain ⟨m, h4, h5, h6⟩ := hm i hlt
    have q0 : Ω .lt (Ω .ci i) (Ω .ci (Ω .slen MD)) = true := by rw [hml]; simp only [wz]; omega
    have hb := b1' i hi
    clear hm hf b1' b2 e0 hml hfl
    refine rq ?_
    refine ⟨cells_l rfl, (by simp only [wz, slen_scat]; omega), ?_⟩
    refine ⟨i + 1, [1050, 1714], hlt, by omega, rfl, ?_, (by rw [← h6]; rfl)⟩
    refine Eq.trans (b := [.ptr 1050 0, .own 1051 3, .d (.i .i64 _)]) rfl ?_
    rw [hw]
  · obtain rfl : i = nm := by omega
    have q0 : Ω .lt (Ω .ci i) (Ω .ci (Ω .slen MD)) = false := by rw [hml]; simp only [wz]; omega
    clear hm b1' e0
    refine rq ?_
    refine LoopG.intro (σ := Nat) [1, 3, 5] [1050, 1051] (fun j => [.ptr 1050 0, .own 1051 3, .d (.i .i64 (Ω .ci j))]) (fun j => [.var ((dSc Ψ MD FD s).map V.d), .row true T.api_Rat 3 (Ψ .dRs (L2 j))]) (fun j => j ≤ nf) (fun j => nf - j) 0 [1050, 1051]
      (Nat.zero_le _) ⟨rfl, rfl, (by rw [e1]; rfl)⟩ ?_
    intro j hj
    have hw' := wrap_succ (n := j) (by omega)
    rcases Nat.lt_or_ge j nf with hlt | hge
    · obtain ⟨f, h4, h6⟩ := hf j hlt
      have q0' : Ω .lt (Ω .ci j) (Ω .ci (Ω .slen FD)) = true := by rw [hfl]; simp only [wz]; omega
      have hb := b2 j hj
      clear hf b2 hml hfl
      refine rq ?_
      refine ⟨cells_l rfl, (by simp only [wz, slen_scat]; omega), ?_⟩
      refine ⟨j + 1, [1050, 2238], hlt, by omega, rfl, ?_, (by rw [← h6]; rfl)⟩
      refine Eq.trans (b := [.ptr 1050 0, .own 1051 3, .d (.i .i64 _)]) rfl ?_
      rw [hw']
    · obtain rfl : j = nf := by omega
      have q0' : Ω .lt (Ω .ci j) (Ω .ci (Ω .slen FD)) = false := by rw [hfl]; simp only [wz]; omega
      exact rq trivial
end Go.K.S
end
section
namespace Go.K.S
open Go Go.K
set_option maxHeartbeats 8000000
set_option maxRecDepth 20000
theorem of314_good : Good P F.penumbraref03_Of [.d (.i .i64 1), .d (.i .i64 4)] [] (.d (.agg (dR Ψ (Ψ .cr (1 / 4))))) [] := by
  have g := of3_good 1 4 (by omega) (by omega) (by omega) (by omega)
  exact g
theorem eta9_good (s : ScL) {MD FD : List D} (hD : ScD s MD FD) {i bin : Nat} {m : MatL} {w : RL} (hm : s.mats[i]? = some m) (hw : s.waves[bin]? = some w) {k : Nat} (ha : Rn k m.a) (hb : Rn k m.b) (hwn : Rn k w) (hk : 0 < k) (hk2 : k < 268435456) :
    Good P F.penumbraref09_Eta [.d (.agg (dSc Ψ MD FD s)), .d (.i .i64 (Ω .ci i)), .d (.i .i64 (Ω .ci bin))] []
      (.tup [.d (.agg (dR Ψ (Ψ .cr ((etaM s.waves m bin).getD 0)))), .d (.b (etaM s.waves m bin).isSome)]) [] := by
  refine G.penumbraref09_Eta fun C C2 hC hC2 => ?_
  rw [etaM_eq hw]
  have hx1 := hD.m i m hm
  have hx2 := hx_dRs hw
  have hml := hD.ml
  have hi : i < s.mats.length := (List.getElem?_eq_some_iff.1 hm).1
  have hj : bin < s.waves.length := (List.getElem?_eq_some_iff.1 hw).1
  have q1 := q_neg i
  have q2 := q_ge hi
  have q3 := q_neg bin
  have q4 := q_ge hj
  rw [← hml] at q2
  have g1 := mul3_good w w hwn hwn (by omega) (by omega)
  have qw := (Qn_mul (Qn_rv hwn hk) (Qn_rv hwn hk) (by omega)).mono (show _ ≤ 2 * k by omega)
  have g2 := over3_good m.b (Ψ .cr (rv w * rv w)) hb (Rn_cr.2 qw) (by omega) (by omega)
  rw [rv_cr] at g2
  have qd := (Qn_div (Qn_rv hb hk) qw (by omega)).mono (show _ ≤ 3 * k by omega)
  have g3 := add3_good m.a (Ψ .cr (rv m.b / (rv w * rv w))) ha (Rn_cr.2 qd) (by omega) (by omega)
  rw [rv_cr] at g3
  have g0 := zero3_good
  have gs := sign3_good w hwn (by omega)
  have zs := @qs_zero (rv w)
  generalize Ψ .sI (rv w) = sw at *
  clear qd qw
  by_cases hk2 : m.kind = 2
  · have q5 : Ω .ne m.kind 2 = false := by rw [q_ne, decide_eq_true hk2]; rfl
    by_cases hz : rv w = 0
    · rw [if_neg (fun h => h.2 hz)]
      rw [decide_eq_true hz] at zs
      generalize Ψ .cr (rv m.b / (rv w * rv w)) = A at *
      generalize Ψ .cr (rv w * rv w) = B at *
      simp only [Option.getD_none, Option.isSome_none]
      exact rq trivial
    · rw [if_pos ⟨hk2, hz⟩]
      rw [decide_eq_false hz] at zs
      simp only [Option.getD_some, Option.isSome_some]
      generalize Ψ .cr (rv m.a + rv m.b / (rv w * rv w)) = A2 at *
      generalize Ψ .cr (rv m.b / (rv w * rv w)) = A at *
      generalize Ψ .cr (rv w * rv w) = B at *
      exact rq trivial
  · rw [if_neg (fun h => hk2 h.1)]
    have q5 : Ω .ne m.kind 2 = true := by rw [q_ne, decide_eq_false hk2]; rfl
    simp only [Option.getD_none, Option.isSome_none]
    exact rq trivial
theorem material9_good (s : ScL) {MD FD : List D} (hD : ScD s MD FD) {i : Nat} {m : MatL} (hm : s.mats[i]? = some m) {k : Nat} (hv : ∀ r, r ∈ m.vals → Rn k r) (ha : Rn k m.a) (hb : Rn k m.b) (hwn : ∀ r, r ∈ s.waves → Rn k r) (hk : 0 < k) (hk2 : k < 16777216) (hl : s.waves.length < 1099511627776) :
    Good P F.penumbraref09_material [.d (.agg (dSc Ψ MD FD s)), .d (.i .i64 (Ω .ci i))] [] (.d (.b (matB s.waves m))) [] := by
  refine G.penumbraref09_material fun C C2 hC hC2 => ?_
  have hx1 := hD.m i m hm
  have g14 := of314_good
  have g11 := one3_good
  have gs := fun (r : RL) (h : Rn k r) => sign3_good r h (by omega)
  have q4 : Qn 2 ((1 : Rat) / 4) := ⟨by decide +kernel, by decide +kernel⟩
  have gc4 := fun (r : RL) (h : Rn k r) => cmp3_good r (Ψ .cr (1 / 4)) (j := k) (k := 2) h (Rn_cr.2 q4) (by omega) (by omega) (by omega) (by omega)
  have gc1 := fun (r : RL) (h : Rn k r) => cmp3_good r (Ψ .cr 1) (j := k) (k := 1) h (Rn_cr.2 Qn_one') (by omega) (by omega) (by omega) (by omega)
  have ge : ∀ bin, bin < s.waves.length → _ := fun bin h => eta9_good s hD hm (List.getElem?_eq_getElem h) ha hb (hwn _ (List.getElem_mem h)) hk (by omega)
  have gse : ∀ bin e, etaM s.waves m bin = some e → Good P F.penumbraref03_Sign [.d (.agg (dR Ψ (Ψ .cr e)))] [] (.d (.i .i64 (Ψ .sI e))) [] := fun bin e he => by
    have hq : Qn (6 * k) e := by
      unfold etaM at he
      cases hw : s.waves[bin]? with
      | none => rw [hw] at he; cases he
      | some w =>
        rw [hw] at he
        simp only at he
        split at he
        · cases he
          have hwk := Qn_rv (hwn w (List.mem_of_getElem? hw)) hk
          exact (Qn_add (Qn_rv ha hk) (Qn_div (Qn_rv hb hk) (Qn_mul hwk hwk (by omega)) (by omega))).mono (by omega)
        · cases he
    have := sign3_good (Ψ .cr e) (Rn_cr.2 hq) (by omega)
    rw [rv_cr] at this
    exact this
  simp only [rv_cr] at gc4 gc1
  have gsa := gs m.a ha
  have gsb := gs m.b hb
  obtain ⟨R, hR⟩ : ∃ R, R = matB s.waves m := ⟨_, rfl⟩
  rw [← hR]
  unfold matB at hR
  by_cases h0 : 0 ≤ m.kind
  rotate_left
  · have q1 : Ω .lt m.kind 0 = true := lt_true.2 (by omega)
    rw [decide_eq_false h0] at hR
    simp only [Bool.false_and] at hR
    subst hR
    clear ge gse
    generalize Ψ .cr (1 / 4) = N4 at *
    generalize Ψ .cr 1 = N1 at *
    exact rq trivial
  have q1 : Ω .lt m.kind 0 = false := lt_false.2 h0
  rw [decide_eq_true h0] at hR
  by_cases h1 : m.kind < 4
  rotate_left
  · have q2 : Ω .lt 3 m.kind = true := lt_true.2 (by omega)
    rw [decide_eq_false h1] at hR
    simp only [Bool.and_false, Bool.false_and] at hR
    subst hR
    clear ge gse
    generalize Ψ .cr (1 / 4) = N4 at *
    generalize Ψ .cr 1 = N1 at *
    exact rq trivial
  have q2 : Ω .lt 3 m.kind = false := lt_false.2 (by omega)
  rw [decide_eq_true h1] at hR
  by_cases hln : m.vals.length = s.waves.length
  rotate_left
  · have q3 : Ω .ne (Ω .ci m.vals.length) (Ω .ci s.waves.length) = true := by simp only [wz]; omega
    rw [decide_eq_false hln] at hR
    simp only [Bool.and_false, Bool.false_and] at hR
    subst hR
    clear ge gse
    generalize Ψ .cr (1 / 4) = N4 at *
    generalize Ψ .cr 1 = N1 at *
    exact rq trivial
  have q3 : Ω .ne (Ω .ci m.vals.length) (Ω .ci s.waves.length) = false := by simp only [wz]; omega
  rw [decide_eq_true hln] at hR
  simp only [Bool.true_and] at hR
  have hzl : m.vals.zipIdx.length = m.vals.length := List.length_zipIdx
  have hz : ∀ j r, m.vals[j]? = some r → m.vals.zipIdx[j]? = some (r, j) := fun j r h => by rw [List.getElem?_zipIdx, h]; simp
  have hst : ∀ j r, m.vals[j]? = some r → valB s.waves m j r = true → (m.vals.zipIdx.take j).all (fun x => valB s.waves m x.2 x.1) = true → (m.vals.zipIdx.take (j + 1)).all (fun x => valB s.waves m x.2 x.1) = true := fun j r h h1 h2 => by
    rw [all_take_succ (hz j r h), h2, Bool.true_and]; exact h1
  have hbad : ∀ j r, m.vals[j]? = some r → valB s.waves m j r = false → R = false := fun j r h h1 => by
    have : valsB s.waves m = false := all_false_of (hz j r h) h1
    rw [hR, this]; rfl
  have hend : (m.vals.zipIdx.take m.vals.length).all (fun x => valB s.waves m x.2 x.1) = true → R = (decide (m.kind = 2) || (decide (rv m.a = 0) && decide (rv m.b = 0))) := fun h => by
    rw [← hzl, all_take_all] at h
    have : valsB s.waves m = true := h
    rw [hR, this]; rfl
  clear hR
  have hv0 : (m.vals.zipIdx.take 0).all (fun x => valB s.waves m x.2 x.1) = true := rfl
  obtain ⟨A, hA⟩ : ∃ A : Nat → Prop, A = fun j => (m.vals.zipIdx.take j).all (fun x => valB s.waves m x.2 x.1) = true := ⟨_, rfl⟩
  have hAe : ∀ j, ((m.vals.zipIdx.take j).all (fun x => valB s.waves m x.2 x.1) = true) = A j := fun j => by rw [hA]
  simp only [hAe] at hst hend hv0
  clear hAe hA
  generalize Ψ .cr (1 / 4) = N4 at *
  generalize Ψ .cr 1 = N1 at *
  obtain ⟨kind, vals, ma, mb⟩ := m
  simp only at *
  refine rq ?_
  refine LoopG.intro (σ := Nat) [1, 2, 5, 6, 7] [1050, 1051, 1052] (fun j => [.d (.i .i64 (Ω .ci i)), .ptr 1050 0, .ptr 1051 0, .own 1052 3, .d (.i .i64 (Ω .ci j))])
    (fun _ => [.var ((dSc Ψ MD FD s).map V.d), .var ((dMat Ψ ⟨kind, vals, ma, mb⟩).map V.d), .row true T.api_Rat 3 [.agg (dR Ψ N4), .agg (dR Ψ N1), .agg (dR Ψ N1)]]) (fun j => j ≤ vals.length ∧ A j) (fun j => vals.length - j) 0 [1000, 1105, 1203]
    ⟨Nat.zero_le _, hv0⟩ ⟨rfl, rfl, rfl⟩ ?_
  rintro j ⟨hj, hAj⟩
  have hw := wrap_succ (n := j) (by omega)
  rcases Nat.lt_or_ge j vals.length with hlt | hge
  · obtain ⟨r, hr⟩ : ∃ r, vals[j]? = some r := ⟨_, List.getElem?_eq_getElem hlt⟩
    have hx2 := hx_dRs hr
    have hrn := hv r (List.mem_of_getElem? hr)
    have q0 : Ω .lt (Ω .ci j) (Ω .ci vals.length) = true := by simp only [wz]; omega
    have hs' := fun h => hst j r hr h hAj
    have hb' := hbad j r hr
    have gj := ge j (by omega)
    have gsj := gse j
    have g1 := gs r hrn
    have g2 := gc4 r hrn
    have g3 := gc1 r hrn
    have p1 := @qs_neg (rv r)
    have p2 := @qc_pos (rv r) (1 / 4)
    have p3 := @qc_pos (rv r) 1
    have ek : kind ≠ 2 → etaM s.waves ⟨kind, vals, ma, mb⟩ j = none := fun h => by
      rw [etaM_eq (List.getElem?_eq_getElem (show j < s.waves.length by omega)), if_neg (fun c => h c.1)]
    unfold valB at hs' hb'
    generalize etaM s.waves ⟨kind, vals, ma, mb⟩ j = et at *
    generalize decide (rv r < 0) = a1 at *
    generalize decide (1 / 4 < rv r) = d4 at *
    generalize decide (1 < rv r) = d1 at *
    generalize Ψ .sI (rv r) = s1 at *
    generalize Ψ .cI (rv r) (1 / 4) = s2 at *
    generalize Ψ .cI (rv r) 1 = s3 at *
    simp only at hs' hb'
    clear ge gse gs gc4 gc1 hst hbad hend hv hwn hz hzl hv0
    have k4 : kind = 0 ∨ kind = 1 ∨ kind = 2 ∨ kind = 3 := by omega
    have f0 : Ω .sget [.agg (dR Ψ N4), .agg (dR Ψ N1), .agg (dR Ψ N1)] 0 = some (.agg (dR Ψ N4)) := rfl
    have f1 : Ω .sget [.agg (dR Ψ N4), .agg (dR Ψ N1), .agg (dR Ψ N1)] 1 = some (.agg (dR Ψ N1)) := rfl
    have f2 : Ω .sget [.agg (dR Ψ N4), .agg (dR Ψ N1), .agg (dR Ψ N1)] 2 = some (.agg (dR Ψ N1)) := rfl
    cases a1 with
    | true =>
      have := hb' rfl
      subst this
      exact rq trivial
    | false =>
      rcases k4 with rfl | rfl | rfl | rfl
      · have en := ek (by omega)
        subst en
        cases d4 with
        | true =>
          have := hb' rfl
          subst this
          refine rq ?_
          refine ⟨(by simp only [wz]; omega), _, f0, Nat.le_refl _, rfl, ?_⟩
          exact rq trivial
        | false =>
          refine rq ?_
          refine ⟨(by simp only [wz]; omega), _, f0, Nat.le_refl _, rfl, ?_⟩
          refine rq ?_
          rw [hw]
          exact ⟨j + 1, [1050, 1051, 1052], ⟨hlt, hs' rfl⟩, by omega, rfl, rfl, rfl⟩
      · have en := ek (by omega)
        subst en
        cases d1 with
        | true =>
          have := hb' rfl
          subst this
          refine rq ?_
          refine ⟨(by simp only [wz]; omega), _, f1, Nat.le_refl _, rfl, ?_⟩
          exact rq trivial
        | false =>
          refine rq ?_
          refine ⟨(by simp only [wz]; omega), _, f1, Nat.le_refl _, rfl, ?_⟩
          refine rq ?_
          rw [hw]
          exact ⟨j + 1, [1050, 1051, 1052], ⟨hlt, hs' rfl⟩, by omega, rfl, rfl, rfl⟩
      · cases d1 with
        | true =>
          have := hb' (by cases et <;> rfl)
          subst this
          refine rq ?_
          refine ⟨(by simp only [wz]; omega), _, f2, Nat.le_refl _, rfl, ?_⟩
          exact rq trivial
        | false =>
          cases et with
          | none =>
            refine rq ?_
            refine ⟨(by simp only [wz]; omega), _, f2, Nat.le_refl _, rfl, ?_⟩
            refine rq ?_
            rw [hw]
            exact ⟨j + 1, [1050, 1051, 1052], ⟨hlt, hs' rfl⟩, by omega, rfl, rfl, rfl⟩
          | some e =>
            have g4 := gsj e rfl
            have p4 := @qs_pos e
            simp only [Option.getD_some, Option.isSome_some] at gj
            simp only at hs' hb'
            generalize decide (0 < e) = t at *
            generalize Ψ .sI e = se at *
            generalize Ψ .cr e = E at *
            cases t with
            | true =>
              refine rq ?_
              refine ⟨(by simp only [wz]; omega), _, f2, Nat.le_refl _, rfl, ?_⟩
              refine rq ?_
              rw [hw]
              exact ⟨j + 1, [1050, 1051, 1052], ⟨hlt, hs' rfl⟩, by omega, rfl, rfl, rfl⟩
            | false =>
              have := hb' rfl
              subst this
              refine rq ?_
              refine ⟨(by simp only [wz]; omega), _, f2, Nat.le_refl _, rfl, ?_⟩
              exact rq trivial
      · have en := ek (by omega)
        subst en
        refine rq ?_
        rw [hw]
        exact ⟨j + 1, [1050, 1051, 1052], ⟨hlt, hs' rfl⟩, by omega, rfl, rfl, rfl⟩
  · obtain rfl : j = vals.length := by omega
    have q0 : Ω .lt (Ω .ci vals.length) (Ω .ci vals.length) = false := by simp only [wz]; omega
    rw [hend hAj]
    have z1 := @qs_zero (rv ma)
    have z2 := @qs_zero (rv mb)
    have z3 : Ω .eq kind 2 = decide (kind = 2) := q_eq
    generalize decide (rv ma = 0) = t1 at *
    generalize decide (rv mb = 0) = t2 at *
    generalize decide (kind = 2) = t3 at *
    generalize Ψ .sI (rv ma) = s1 at *
    generalize Ψ .sI (rv mb) = s2 at *
    clear ge gse gs gc4 gc1 hst hbad hend hv hwn hz hzl hv0
    cases t3 <;> cases t1 <;> cases t2
    all_goals exact rq trivial
end Go.K.S
end
section
namespace Go.K.S
open Go Go.K
set_option maxHeartbeats 8000000
set_option maxRecDepth 20000
theorem check9_good (s : ScL) {MD FD : List D} (hD : ScD s MD FD) {k : Nat} (hs : Scn k s) (hk0 : 0 < k) (hk : k < 134217728) :
    Good P F.penumbraref09_Check [.d (.agg (dSc Ψ MD FD s))] [] (.d (.i .i64 (checkS s))) [] := by
  refine G.penumbraref09_Check fun C C2 hC hC2 => ?_
  have hml := hD.ml
  have hfl := hD.fl
  obtain ⟨R, hR⟩ : ∃ R, R = checkS s := ⟨_, rfl⟩
  rw [← hR]
  unfold checkS at hR
  by_cases hm : manyB s = false
  · rw [if_pos hm] at hR
    subst hR
    unfold manyB at hm
    by_cases c1 : 1 ≤ s.waves.length
    rotate_left
    · have q1 : Ω .lt (Ω .ci s.waves.length) 1 = true := by simp only [wz]; omega
      exact rq trivial
    have q1 : Ω .lt (Ω .ci s.waves.length) 1 = false := by simp only [wz]; omega
    by_cases c2 : s.waves.length ≤ 8
    rotate_left
    · have q2 : Ω .lt 8 (Ω .ci s.waves.length) = true := by simp only [wz]; omega
      exact rq trivial
    have q2 : Ω .lt 8 (Ω .ci s.waves.length) = false := by simp only [wz]; omega
    by_cases c3 : s.mats.length ≤ 32
    rotate_left
    · have q3 : Ω .lt 32 (Ω .ci (Ω .slen MD)) = true := by rw [hml]; simp only [wz]; omega
      exact rq trivial
    have q3 : Ω .lt 32 (Ω .ci (Ω .slen MD)) = false := by rw [hml]; simp only [wz]; omega
    by_cases c4 : 1 ≤ s.faces.length
    rotate_left
    · have q4 : Ω .lt (Ω .ci (Ω .slen FD)) 1 = true := by rw [hfl]; simp only [wz]; omega
      exact rq trivial
    have q4 : Ω .lt (Ω .ci (Ω .slen FD)) 1 = false := by rw [hfl]; simp only [wz]; omega
    by_cases c5 : s.faces.length ≤ 64
    rotate_left
    · have q5 : Ω .lt 64 (Ω .ci (Ω .slen FD)) = true := by rw [hfl]; simp only [wz]; omega
      exact rq trivial
    rw [decide_eq_true c1, decide_eq_true c2, decide_eq_true c3, decide_eq_true c4, decide_eq_true c5] at hm
    exact nomatch hm
  rw [if_neg hm] at hR
  have hm' : manyB s = true := by simpa using hm
  unfold manyB at hm'
  simp only [Bool.and_eq_true, decide_eq_true_eq] at hm'
  obtain ⟨c1, c2, c3, c4, c5⟩ := hm'
  have q1 : Ω .lt (Ω .ci s.waves.length) 1 = false := by simp only [wz]; omega
  have q2 : Ω .lt 8 (Ω .ci s.waves.length) = false := by simp only [wz]; omega
  have q3 : Ω .lt 32 (Ω .ci (Ω .slen MD)) = false := by rw [hml]; simp only [wz]; omega
  have q4 : Ω .lt (Ω .ci (Ω .slen FD)) 1 = false := by rw [hfl]; simp only [wz]; omega
  have q5 : Ω .lt 64 (Ω .ci (Ω .slen FD)) = false := by rw [hfl]; simp only [wz]; omega
  clear hm
  have hvl : ∀ m, m ∈ s.mats → m.vals.length ≤ k := fun m hm => (hs.mv m hm).l
  have g1 := all9_good s hD hvl hk c2 c3 c5
  have hall := allL_n hs
  have hfit := allL_fit s
  have hlen : (allL s).length < 1099511627776 := by
    have b1 := all1_len hvl s.mats.length (Nat.le_refl _)
    have h4 : s.mats.length * (k + 2) ≤ 32 * 134217730 := Nat.mul_le_mul (by omega) (by omega)
    have b2 := all2_len b1 s.faces.length (Nat.le_refl _)
    unfold allL
    omega
  generalize allL s = AL at *
  obtain ⟨AA, hAA⟩ : ∃ A : Nat → Prop, A = fun i => (AL.take i).all fitR = true := ⟨_, rfl⟩
  have w0 : AA 0 := by rw [hAA]; rfl
  have w1 : ∀ i r, AL[i]? = some r → fitR r = true → AA i → AA (i + 1) := fun i r h h1 h2 => by
    rw [hAA] at h2 ⊢
    simp only at h2 ⊢
    rw [all_take_succ h, h2, h1]; rfl
  have w2 : ∀ i r, AL[i]? = some r → fitR r = false → R = 97 := fun i r h h1 => by
    rw [hR, if_pos (by rw [← hfit]; exact all_false_of h h1)]
  have w3 : AA AL.length → sizesS s = true := fun h => by
    rw [hAA] at h
    rw [← hfit, ← all_take_all]; exact h
  clear hAA
  refine rq ?_
  refine LoopG.intro (σ := Nat) [1, 3, 4] [1050] (fun i => [.ptr 1050 0, .d (.sl (Ψ .dRs AL)), .d (.i .i64 (Ω .ci i))]) (fun _ => [.var ((dSc Ψ MD FD s).map V.d)]) (fun i => i ≤ AL.length ∧ AA i) (fun i => AL.length - i) 0 [1000]
    ⟨Nat.zero_le _, w0⟩ ⟨rfl, rfl, rfl⟩ ?_
  rintro i ⟨hi, hA⟩
  have hw := wrap_succ (n := i) (by omega)
  rcases Nat.lt_or_ge i AL.length with hlt | hge
  · obtain ⟨r, hr⟩ : ∃ r, AL[i]? = some r := ⟨_, List.getElem?_eq_getElem hlt⟩
    have hx := hx_dRs hr
    have hrn := hall r (List.mem_of_getElem? hr)
    have q0 : Ω .lt (Ω .ci i) (Ω .ci AL.length) = true := by simp only [wz]; omega
    have g2 := check3_good r hrn hk0 (by omega)
    have g3 := bits1_good r.num (hrn.N1 (by omega))
    have g4 := bits1_good r.den (hrn.N2 (by omega))
    have hs' := fun h => w1 i r hr h hA
    have hb' := w2 i r hr
    unfold fitR at hs' hb'
    have e1 : decide (bl (nv r.num) ≤ 64) = !(Ω .lt 64 (Ω .ci (bl (nv r.num)))) := by
      by_cases h : bl (nv r.num) ≤ 64
      · rw [decide_eq_true h, lt_false.2 (by simp only [wz]; omega)]; rfl
      · rw [decide_eq_false h, lt_true.2 (by simp only [wz]; omega)]; rfl
    have e2 : decide (bl (nv r.den) ≤ 64) = !(Ω .lt 64 (Ω .ci (bl (nv r.den)))) := by
      by_cases h : bl (nv r.den) ≤ 64
      · rw [decide_eq_true h, lt_false.2 (by simp only [wz]; omega)]; rfl
      · rw [decide_eq_false h, lt_true.2 (by simp only [wz]; omega)]; rfl
    rw [e1, e2] at hs' hb'
    clear e1 e2 w0 w1 w2 w3 hall hs hD
    generalize decide (r = Ψ .cr (rv r)) = t1 at *
    generalize bl (nv r.num) = b1 at *
    generalize bl (nv r.den) = b2 at *
    cases t1 with
    | false =>
      have := hb' rfl
      subst this
      exact rq trivial
    | true =>
      cases r1 : Ω .lt 64 (Ω .ci b1) with
      | true =>
        rw [r1] at hb'
        have := hb' rfl
        subst this
        exact rq trivial
      | false =>
        cases r2 : Ω .lt 64 (Ω .ci b2) with
        | true =>
          rw [r1, r2] at hb'
          have := hb' rfl
          subst this
          exact rq trivial
        | false =>
          rw [r1, r2] at hs'
          refine rq ?_
          rw [hw]
          exact ⟨i + 1, [1050], ⟨hlt, hs' rfl⟩, by omega, rfl, rfl, rfl⟩
  obtain rfl : i = AL.length := by omega
  have q0a : Ω .lt (Ω .ci AL.length) (Ω .ci AL.length) = false := by simp only [wz]; omega
  have hz' := w3 hA
  rw [if_neg (by rw [hz']; exact fun h => nomatch h)] at hR
  have h2 := sc2_of hz'
  clear hz' hfit w0 w1 w2 w3 hw hi hA
  have gw : ∀ r, r ∈ s.waves → Good P F.penumbraref03_Sign [.d (.agg (dR Ψ r))] [] (.d (.i .i64 (Ψ .sI (rv r)))) [] := fun r hr => sign3_good r (h2.wv r hr) (by omega)
  obtain ⟨AW, hAW⟩ : ∃ A : Nat → Prop, A = fun i => (s.waves.take i).all (fun x => decide (0 < rv x)) = true := ⟨_, rfl⟩
  have w0 : AW 0 := by rw [hAW]; rfl
  have w1 : ∀ i r, s.waves[i]? = some r → 0 < rv r → AW i → AW (i + 1) := fun i r h h1 h2 => by
    rw [hAW] at h2 ⊢
    simp only at h2 ⊢
    rw [all_take_succ h, h2, decide_eq_true h1]; rfl
  have w2 : ∀ i r, s.waves[i]? = some r → ¬ 0 < rv r → R = 98 := fun i r h h1 => by
    rw [hR, if_pos (all_false_of h (decide_eq_false h1))]
  have w3 : AW s.waves.length → (s.waves.all fun x => decide (0 < rv x)) = true := fun h => by
    rw [hAW] at h
    rw [← all_take_all]; exact h
  clear hAW
  refine rq ?_
  refine LoopG.intro (σ := Nat) [1, 5] [1050] (fun i => [.ptr 1050 0, .d (.i .i64 (Ω .ci i))]) (fun _ => [.var ((dSc Ψ MD FD s).map V.d)]) (fun i => i ≤ s.waves.length ∧ AW i) (fun i => s.waves.length - i) 0 [1050]
    ⟨Nat.zero_le _, w0⟩ ⟨rfl, rfl, rfl⟩ ?_
  rintro i ⟨hi, hA⟩
  have hw := wrap_succ (n := i) (by omega)
  rcases Nat.lt_or_ge i s.waves.length with hlt | hge
  · obtain ⟨r, hr⟩ : ∃ r, s.waves[i]? = some r := ⟨_, List.getElem?_eq_getElem hlt⟩
    have hx := hx_dRs hr
    have q0 : Ω .lt (Ω .ci i) (Ω .ci s.waves.length) = true := by simp only [wz]; omega
    have g := gw r (List.mem_of_getElem? hr)
    have p := @qs_pos (rv r)
    by_cases hp : 0 < rv r
    · rw [decide_eq_true hp] at p
      have := w1 i r hr hp hA
      generalize Ψ .sI (rv r) = s1 at *
      clear w1 w2 w3 gw
      refine rq ?_
      rw [hw]
      exact ⟨i + 1, [1050], ⟨hlt, this⟩, by omega, rfl, rfl, rfl⟩
    · rw [decide_eq_false hp] at p
      have := w2 i r hr hp
      subst this
      generalize Ψ .sI (rv r) = s1 at *
      clear w1 w2 w3 gw
      exact rq trivial
  obtain rfl : i = s.waves.length := by omega
  have q0 : Ω .lt (Ω .ci s.waves.length) (Ω .ci s.waves.length) = false := by simp only [wz]; omega
  rw [if_neg (by rw [w3 hA]; exact fun h => nomatch h)] at hR
  clear w0 w1 w2 w3 gw hw hi hA
  have gm : ∀ (j : Nat) (h : j < s.mats.length), Good P F.penumbraref09_material [.d (.agg (dSc Ψ MD FD s)), .d (.i .i64 (Ω .ci j))] [] (.d (.b (matB s.waves s.mats[j]))) [] := fun j h => by
    have hv := h2.mv _ (List.getElem_mem h)
    exact material9_good s hD (List.getElem?_eq_getElem h) hv.1 hv.2.1 hv.2.2 h2.wv (by omega) (by omega) (by omega)
  obtain ⟨AM, hAM⟩ : ∃ A : Nat → Prop, A = fun i => (s.mats.take i).all (matB s.waves) = true := ⟨_, rfl⟩
  have w0 : AM 0 := by rw [hAM]; rfl
  have w1 : ∀ i (h : i < s.mats.length), matB s.waves s.mats[i] = true → AM i → AM (i + 1) := fun i h h1 h2 => by
    rw [hAM] at h2 ⊢
    simp only at h2 ⊢
    rw [all_take_succ (List.getElem?_eq_getElem h), h2, h1]; rfl
  have w2 : ∀ i (h : i < s.mats.length), matB s.waves s.mats[i] = false → R = 98 := fun i h h1 => by
    rw [hR, if_pos (all_false_of (List.getElem?_eq_getElem h) h1)]
  have w3 : AM s.mats.length → s.mats.all (matB s.waves) = true := fun h => by
    rw [hAM] at h
    rw [← all_take_all]; exact h
  clear hAM
  refine rq ?_
  refine LoopG.intro (σ := Nat) [1, 6] [1050] (fun i => [.ptr 1050 0, .d (.i .i64 (Ω .ci i))]) (fun _ => [.var ((dSc Ψ MD FD s).map V.d)]) (fun i => i ≤ s.mats.length ∧ AM i) (fun i => s.mats.length - i) 0 [1050]
    ⟨Nat.zero_le _, w0⟩ ⟨rfl, rfl, rfl⟩ ?_
  rintro j ⟨hj, hA⟩
  have hw := wrap_succ (n := j) (by omega)
  rcases Nat.lt_or_ge j s.mats.length with hlt | hge
  · have q0' : Ω .lt (Ω .ci j) (Ω .ci (Ω .slen MD)) = true := by rw [hml]; simp only [wz]; omega
    have g := gm j hlt
    have v1 := fun h => w1 j hlt h hA
    have v2 := w2 j hlt
    generalize matB s.waves s.mats[j] = b at *
    clear w1 w2 w3 gm
    cases b with
    | true =>
      refine rq ?_
      rw [hw]
      exact ⟨j + 1, [1050], ⟨hlt, v1 rfl⟩, by omega, rfl, rfl, rfl⟩
    | false =>
      have := v2 rfl
      subst this
      exact rq trivial
  obtain rfl : j = s.mats.length := by omega
  have q0' : Ω .lt (Ω .ci s.mats.length) (Ω .ci (Ω .slen MD)) = false := by rw [hml]; simp only [wz]; omega
  rw [if_neg (by rw [w3 hA]; exact fun h => nomatch h)] at hR
  clear w0 w1 w2 w3 gm hw hj hA
  obtain ⟨AF, hAF⟩ : ∃ A : Nat → Prop, A = fun i => (s.faces.take i).all (faceB s.mats.length) = true := ⟨_, rfl⟩
  have w0 : AF 0 := by rw [hAF]; rfl
  have w1 : ∀ i f, s.faces[i]? = some f → faceB s.mats.length f = true → AF i → AF (i + 1) := fun i f h h1 h2 => by
    rw [hAF] at h2 ⊢
    simp only at h2 ⊢
    rw [all_take_succ h, h2, h1]; rfl
  have w2 : ∀ i f, s.faces[i]? = some f → faceB s.mats.length f = false → R = 99 := fun i f h h1 => by
    rw [hR, if_pos (all_false_of h h1)]
  have w3 : AF s.faces.length → s.faces.all (faceB s.mats.length) = true := fun h => by
    rw [hAF] at h
    rw [← all_take_all]; exact h
  clear hAF
  refine rq ?_
  refine LoopG.intro (σ := Nat) [1, 7] [1050] (fun i => [.ptr 1050 0, .d (.i .i64 (Ω .ci i))]) (fun _ => [.var ((dSc Ψ MD FD s).map V.d)]) (fun i => i ≤ s.faces.length ∧ AF i) (fun i => s.faces.length - i) 0 [1050]
    ⟨Nat.zero_le _, w0⟩ ⟨rfl, rfl, rfl⟩ ?_
  rintro i ⟨hi, hA⟩
  have hw := wrap_succ (n := i) (by omega)
  rcases Nat.lt_or_ge i s.faces.length with hlt | hge
  · obtain ⟨f, hf⟩ : ∃ f, s.faces[i]? = some f := ⟨_, List.getElem?_eq_getElem hlt⟩
    have hx := hD.f i f hf
    have q0 : Ω .lt (Ω .ci i) (Ω .ci (Ω .slen FD)) = true := by rw [hfl]; simp only [wz]; omega
    have g := unit8_good f.tri (h2.fv f (List.mem_of_getElem? hf)) (by omega) (by omega)
    have v1 := fun h => w1 i f hf h hA
    have v2 := w2 i f hf
    unfold faceB at v1 v2
    have r1 : Ω .lt f.mat 0 = !decide (0 ≤ f.mat) := by rw [q_lt']; by_cases h : 0 ≤ f.mat <;> simp [h] <;> omega
    have r2 : Ω .le (Ω .ci (Ω .slen MD)) f.mat = !decide (f.mat < (s.mats.length : Int)) := by rw [hml, q_le', w_ci]; by_cases h : f.mat < (s.mats.length : Int) <;> simp [h] <;> omega
    generalize Ψ .cV (unitR (normS (tv f.tri))).1 = U at *
    generalize Ψ .cr ((unitR (normS (tv f.tri))).2 * (1 / 2)) = L at *
    generalize (unitS (normS (tv f.tri))).isSome = ok at *
    generalize decide (0 ≤ f.mat) = t1 at *
    generalize decide (f.mat < (s.mats.length : Int)) = t2 at *
    clear w1 w2 w3
    cases ok with
    | false =>
      have := v2 rfl
      subst this
      exact rq trivial
    | true =>
      cases t1 with
      | false =>
        have := v2 rfl
        subst this
        exact rq trivial
      | true =>
        cases t2 with
        | false =>
          have := v2 rfl
          subst this
          exact rq trivial
        | true =>
          refine rq ?_
          rw [hw]
          exact ⟨i + 1, [1050], ⟨hlt, v1 rfl⟩, by omega, rfl, rfl, rfl⟩
  obtain rfl : i = s.faces.length := by omega
  have q0 : Ω .lt (Ω .ci s.faces.length) (Ω .ci (Ω .slen FD)) = false := by rw [hfl]; simp only [wz]; omega
  rw [if_neg (by rw [w3 hA]; exact fun h => nomatch h)] at hR
  clear w0 w1 w2 w3 hw hi hA
  have gd := dot5_good s.look s.look h2.l h2.l (by omega) (by omega) (by omega) (by omega)
  have qd := Qn_dot (Pn_vv h2.l (by omega)) (Pn_vv h2.l (by omega)) (by omega)
  have g11 := one3_good
  have gsm := is3_good (Ψ .cr (vdot (vv s.look) (vv s.look))) (Ψ .cr 1) (Rn_cr.2 qd) (Rn_cr.2 Qn_one') (by omega) (by omega)
  rw [show decide (Ψ .cr (vdot (vv s.look) (vv s.look)) = Ψ .cr 1) = decide (vdot (vv s.look) (vv s.look) = 1) from decide_eq_decide.2 cr_eq_iff] at gsm
  have gh := sign3_good s.half h2.hf (by omega)
  have ph := @qs_pos (rv s.half)
  have p1 : Ω .lt s.w 1 = !decide (1 ≤ s.w) := by rw [q_lt']; by_cases h : 1 ≤ s.w <;> simp [h] <;> omega
  have p2 : Ω .lt 16 s.w = !decide (s.w ≤ 16) := by rw [q_lt']; by_cases h : s.w ≤ 16 <;> simp [h] <;> omega
  have p3 : Ω .lt s.h 1 = !decide (1 ≤ s.h) := by rw [q_lt']; by_cases h : 1 ≤ s.h <;> simp [h] <;> omega
  have p4 : Ω .lt 16 s.h = !decide (s.h ≤ 16) := by rw [q_lt']; by_cases h : s.h ≤ 16 <;> simp [h] <;> omega
  unfold viewB at hR
  generalize decide (vdot (vv s.look) (vv s.look) = 1) = b0 at *
  generalize decide (1 ≤ s.w) = b1 at *
  generalize decide (s.w ≤ 16) = b2 at *
  generalize decide (1 ≤ s.h) = b3 at *
  generalize decide (s.h ≤ 16) = b4 at *
  generalize decide (0 < rv s.half) = b5 at *
  generalize Ψ .sI (rv s.half) = sh at *
  generalize Ψ .cr (vdot (vv s.look) (vv s.look)) = dd at *
  generalize Ψ .cr 1 = N1 at *
  clear qd hD hs h2
  cases b0 with
  | false => simp only [Bool.false_and, if_true] at hR; subst hR; exact rq trivial
  | true =>
  cases b1 with
  | false => simp only [Bool.false_and, Bool.and_false, if_true] at hR; subst hR; exact rq trivial
  | true =>
  cases b2 with
  | false => simp only [Bool.false_and, Bool.and_false, if_true] at hR; subst hR; exact rq trivial
  | true =>
  cases b3 with
  | false => simp only [Bool.false_and, Bool.and_false, if_true] at hR; subst hR; exact rq trivial
  | true =>
  cases b4 with
  | false => simp only [Bool.false_and, Bool.and_false, if_true] at hR; subst hR; exact rq trivial
  | true =>
  cases b5 with
  | false => simp only [Bool.false_and, Bool.and_false, if_true] at hR; subst hR; exact rq trivial
  | true =>
    simp only [Bool.and_true, Bool.true_eq_false, if_false] at hR
    subst hR
    exact rq trivial
end Go.K.S
end
section
namespace Go.K
open Go
def faceU (f : FaceL) : VL := Ψ .cV (unitR (normS (tv f.tri))).1
def faceA (f : FaceL) : RL := Ψ .cr ((unitR (normS (tv f.tri))).2 * (1 / 2))
def trisL (s : ScL) (i : Nat) : List TL := (s.faces.take i).map fun f => f.tri
def unitsL (s : ScL) (i : Nat) : List VL := (s.faces.take i).map faceU
def areasL (s : ScL) (i : Nat) : List RL := (s.faces.take i).map faceA
def kindOf (s : ScL) (f : FaceL) : Int := match s.mats[f.mat.toNat]? with | some m => m.kind | none => 0
def lightsL (s : ScL) : Nat → List Nat
  | 0 => []
  | i + 1 => match s.faces[i]? with
    | some f => if kindOf s f = 3 then lightsL s i ++ [i] else lightsL s i
    | none => lightsL s i
def rcell (Ψ : (t : Sd) → STy t) (MD FD : List D) (s : ScL) (t u v w x y : V) : List V := (dSc Ψ MD FD s).map V.d ++ [t, u, v, w, x, y]
theorem tl_succ {s : ScL} {i : Nat} {f : FaceL} (h : s.faces[i]? = some f) : trisL s (i + 1) = trisL s i ++ [f.tri] := by
  unfold trisL; rw [take_succ_of h, List.map_append]; rfl
theorem ul_succ {s : ScL} {i : Nat} {f : FaceL} (h : s.faces[i]? = some f) : unitsL s (i + 1) = unitsL s i ++ [faceU f] := by
  unfold unitsL; rw [take_succ_of h, List.map_append]; rfl
theorem al_succ {s : ScL} {i : Nat} {f : FaceL} (h : s.faces[i]? = some f) : areasL s (i + 1) = areasL s i ++ [faceA f] := by
  unfold areasL; rw [take_succ_of h, List.map_append]; rfl
theorem lights_len (s : ScL) : ∀ i, (lightsL s i).length ≤ i
  | 0 => Nat.le_refl _
  | i + 1 => by
    have := lights_len s i
    rw [lightsL]
    split
    · split
      · rw [List.length_append]; simp; exact this
      · omega
    · omega
structure ScOk (s : ScL) : Prop where
  n : Sc2 s
  w1 : 1 ≤ s.waves.length
  w2 : s.waves.length ≤ 8
  m : s.mats.length ≤ 32
  f1 : 1 ≤ s.faces.length
  f2 : s.faces.length ≤ 64
  wp : ∀ r, r ∈ s.waves → 0 < rv r
  mb : ∀ m, m ∈ s.mats → matB s.waves m = true
  fb : ∀ f, f ∈ s.faces → (unitS (normS (tv f.tri))).isSome = true ∧ 0 ≤ f.mat ∧ f.mat < s.mats.length
theorem scOk_of {s : ScL} (h : checkS s = 0) : ScOk s := by
  unfold checkS at h
  by_cases h1 : manyB s = false
  · rw [if_pos h1] at h; exact absurd h (by decide)
  rw [if_neg h1] at h
  by_cases h2 : sizesS s = false
  · rw [if_pos h2] at h; exact absurd h (by decide)
  rw [if_neg h2] at h
  by_cases h3 : (s.waves.all fun x => decide (0 < rv x)) = false
  · rw [if_pos h3] at h; exact absurd h (by decide)
  rw [if_neg h3] at h
  by_cases h4 : s.mats.all (matB s.waves) = false
  · rw [if_pos h4] at h; exact absurd h (by decide)
  rw [if_neg h4] at h
  by_cases h5 : s.faces.all (faceB s.mats.length) = false
  · rw [if_pos h5] at h; exact absurd h (by decide)
  have h1' : manyB s = true := by simpa using h1
  unfold manyB at h1'
  simp only [Bool.and_eq_true, decide_eq_true_eq] at h1'
  obtain ⟨c1, c2, c3, c4, c5⟩ := h1'
  have h3' : (s.waves.all fun x => decide (0 < rv x)) = true := by simpa using h3
  have h4' : s.mats.all (matB s.waves) = true := by simpa using h4
  have h5' : s.faces.all (faceB s.mats.length) = true := by simpa using h5
  refine ⟨sc2_of (by simpa using h2), c1, c2, c3, c4, c5, fun r hr => of_decide_eq_true (all_of h3' hr), fun m hm => all_of h4' hm, fun f hf => ?_⟩
  have := all_of h5' hf
  unfold faceB at this
  simp only [Bool.and_eq_true, decide_eq_true_eq] at this
  exact ⟨this.1, this.2.1, this.2.2⟩
theorem triH_map {tris : List TL} (h : tris.length < 268435456) : TriH tris (tris.map fun t => .agg (dT Ψ t)) :=
  ⟨fun i t ht => by rw [w_sget, List.getElem?_map, ht]; rfl, by rw [w_slen, List.length_map], h⟩
def trisD (l : List TL) : List D := l.map fun t => .agg (dT Ψ t)
theorem trisD_snoc (l : List TL) (t : TL) : Ω .scat (trisD l) [.agg (dT Ψ t)] = trisD (l ++ [t]) := by simp [trisD, w_scat]
theorem scat_dVs' (l m : List VL) : Ω .scat (Ψ .dVs l) (Ψ .dVs m) = Ψ .dVs (l ++ m) := by simp [w_scat, p_dVs]
theorem slen_trisD (l : List TL) : Ω .slen (trisD l) = l.length := by simp [trisD, w_slen]
end Go.K
namespace Go.K.S
open Go Go.K
set_option maxHeartbeats 8000000
set_option maxRecDepth 20000
theorem new_bad (s : ScL) {MD FD : List D} (hD : ScD s MD FD) {k : Nat} (hs : Scn k s) (hk0 : 0 < k) (hk : k < 137438953472) (h : checkS s ≠ 0) :
    Good P F.ready_New [.agg ((dSc Ψ MD FD s).map V.d)] [] (.tup [.d .np, .d (.b false)]) [] := by
  refine G.ready_New (hb := of_decide_eq_true rfl) fun C C2 hC hC2 => ?_
  have g1 := scheck_good s hD hs hk0 hk
  generalize checkS s = e at *
  have q1 : Ω .ne e 0 = true := ne_true'.2 h
  refine rq ?_
  exact ⟨[], rfl, rfl, rfl⟩
theorem new_good (s : ScL) {MD FD : List D} (hD : ScD s MD FD) {k : Nat} (hs : Scn k s) (hk0 : 0 < k) (hk : k < 137438953472) (h : checkS s = 0) :
    Good P F.ready_New [.agg ((dSc Ψ MD FD s).map V.d)] [] (.tup [.ptr 0 0, .d (.b true)])
      [.var (rcell Ψ MD FD s (.own 1 27) (.d (.sl (nodesD (buildS (trisL s s.faces.length)).nodes))) (.d (.sl (oD (buildS (trisL s s.faces.length)).order))) (.own 2 9) (.own 3 3) (.own 4 1)),
        .row false T.api_Tri 27 (trisD (trisL s s.faces.length)), .row true T.api_Vec 9 (Ψ .dVs (unitsL s s.faces.length)), .row true T.api_Rat 3 (Ψ .dRs (areasL s s.faces.length)), .row true T.int 1 (oD (lightsL s s.faces.length))] := by
  refine G.ready_New (hb := of_decide_eq_true rfl) fun C C2 hC hC2 => ?_
  have g1 := scheck_good s hD hs hk0 hk
  have ok := scOk_of h
  rw [h] at g1
  have hfl := hD.fl
  have hml := hD.ml
  have f2 := ok.f2
  have htn : ∀ i, ∀ t, t ∈ trisL s i → Tn 2 t := fun i t ht => by
    obtain ⟨f, hf, rfl⟩ := List.mem_map.1 ht
    exact ok.n.fv f (List.mem_of_mem_take hf)
  have hlt : ∀ i, i ≤ s.faces.length → (trisL s i).length = i := fun i hi => by unfold trisL; rw [List.length_map, List.length_take]; omega
  have hlu : ∀ i, i ≤ s.faces.length → (unitsL s i).length = i := fun i hi => by unfold unitsL; rw [List.length_map, List.length_take]; omega
  have hla : ∀ i, i ≤ s.faces.length → (areasL s i).length = i := fun i hi => by unfold areasL; rw [List.length_map, List.length_take]; omega
  have hll := lights_len s
  have H := triH_map (tris := trisL s s.faces.length) (by rw [hlt _ (Nat.le_refl _)]; omega)
  have gb := build_good (tris := trisL s s.faces.length) (TD := trisD (trisL s s.faces.length)) (k := 2) H.t H.tl (by rw [hlt _ (Nat.le_refl _)]; omega) (htn _) (by omega) (by omega)
  have hstep : ∀ i, i < s.faces.length → ∃ f m, Ω .sget FD i = some (.agg (dFace Ψ f)) ∧ Ω .sget MD f.mat.toNat = some (.agg (dMat Ψ m)) ∧ f.mat = Ω .ci f.mat.toNat ∧
      Good P F.tri_Unit [.d (.agg (dT Ψ f.tri))] [] (.tup [.d (.agg (dV Ψ (faceU f))), .d (.agg (dR Ψ (faceA f))), .d (.b true)]) [] ∧
      Ω .scat (trisD (trisL s i)) [.agg (dT Ψ f.tri)] = trisD (trisL s (i + 1)) ∧ Ω .scat (Ψ .dVs (unitsL s i)) [.agg (dV Ψ (faceU f))] = Ψ .dVs (unitsL s (i + 1)) ∧ Ω .scat (Ψ .dRs (areasL s i)) [.agg (dR Ψ (faceA f))] = Ψ .dRs (areasL s (i + 1)) ∧
      (m.kind = 3 → Ω .scat (oD (lightsL s i)) [.i .i64 (Ω .ci i)] = oD (lightsL s (i + 1))) ∧ (m.kind ≠ 3 → lightsL s (i + 1) = lightsL s i) := fun i hi => by
    obtain ⟨f, hf⟩ : ∃ f, s.faces[i]? = some f := ⟨_, List.getElem?_eq_getElem hi⟩
    have hfm := List.mem_of_getElem? hf
    obtain ⟨u1, u2, u3⟩ := ok.fb f hfm
    obtain ⟨m, hm⟩ : ∃ m, s.mats[f.mat.toNat]? = some m := ⟨_, List.getElem?_eq_getElem (by omega)⟩
    have gu := tunit_good f.tri (ok.n.fv f hfm) (by omega) (by omega)
    rw [u1] at gu
    have kk : kindOf s f = m.kind := by unfold kindOf; rw [hm]
    refine ⟨f, m, hD.f i f hf, hD.m _ m hm, by rw [w_ci]; omega, gu, ?_, ?_, ?_, fun h3 => ?_, fun h3 => ?_⟩
    · rw [tl_succ hf, ← trisD_snoc]
    · rw [ul_succ hf, ← scat_dVs']; rfl
    · rw [al_succ hf, ← scat_dRs]; rfl
    · rw [lightsL, hf]
      simp only
      rw [if_pos (kk.trans h3), oD_ok.cat]
    · rw [lightsL, hf]
      simp only
      rw [if_neg (fun c => h3 (kk.symm.trans c))]
  have ht0 : trisD (trisL s 0) = [] := rfl
  have hu0 : Ψ .dVs (unitsL s 0) = [] := rfl
  have ha0 : Ψ .dRs (areasL s 0) = [] := rfl
  have hl0 : oD (lightsL s 0) = [] := rfl
  have lt' : ∀ i, i ≤ s.faces.length → Ω .slen (trisD (trisL s i)) = i := fun i hi => by rw [slen_trisD, hlt i hi]
  have ll' : ∀ i, Ω .slen (oD (lightsL s i)) = (lightsL s i).length := fun i => oD_ok.len _
  clear H htn hD hs h hlt
  generalize nodesD (buildS (trisL s s.faces.length)).nodes = ND at *
  generalize oD (buildS (trisL s s.faces.length)).order = OD at *
  obtain ⟨TT, hTT⟩ : ∃ T : Nat → List D, T = fun i => trisD (trisL s i) := ⟨_, rfl⟩
  have eT : ∀ i, trisD (trisL s i) = TT i := fun i => by rw [hTT]
  obtain ⟨LL, hLL⟩ : ∃ T : Nat → List D, T = fun i => oD (lightsL s i) := ⟨_, rfl⟩
  have eL : ∀ i, oD (lightsL s i) = LL i := fun i => by rw [hLL]
  have hL2 : ∀ i m, lightsL s m = lightsL s i → LL m = LL i := fun i m h => by rw [← eL, ← eL, h]
  simp only [eT, eL] at gb hstep ht0 hl0 lt' ll' ⊢
  clear eT eL hTT hLL
  generalize unitsL s = UU at *
  generalize areasL s = AA at *
  generalize s.faces.length = nf at *
  have q1 : Ω .ne 0 0 = false := rfl
  refine rq ?_
  rw [hfl]
  refine LoopG.introB (σ := Nat) [.cell 1302 26 900001 T.api_Tri 27, .cell 1302 29 900002 T.api_Vec 9, .cell 1302 30 900003 T.api_Rat 3, .cell 1302 31 900004 T.int 1] [1, 4, 17, 18, 19] [1050, 1051, 1052, 1053, 1054, 1055]
    (fun i => [.ptr 1050 0, .ptr 1051 0, .d (.sl FD), .d (.i .i64 (Ω .ci nf)), .d (.i .i64 (Ω .ci i))])
    (fun i => [.var ((dSc Ψ MD FD s).map V.d), .var (rcell Ψ MD FD s (.own 1052 27) .nil .nil (.own 1053 9) (.own 1054 3) (.own 1055 1)), .row true T.api_Tri 27 (TT i), .row true T.api_Vec 9 (Ψ .dVs (UU i)), .row true T.api_Rat 3 (Ψ .dRs (AA i)), .row true T.int 1 (LL i)])
    (fun i => i ≤ nf)
    (fun i => nf - i) 0 [1000, 1302, 900001, 900002, 900003, 900004] (Nat.zero_le _) ⟨rfl, rfl, (by rw [ht0, hu0, ha0, hl0]; rfl)⟩ ?_
  intro i hi
  have hw := wrap_succ (n := i) (by omega)
  have l1 := lt' i hi
  have l2 := hlu i hi
  have l3 := hla i hi
  have l4 := hll i
  have l5 := ll' i
  rcases Nat.lt_or_ge i nf with hlt | hge
  · obtain ⟨f, m, x1, x2, x3, x4, x5, x6, x7, x8, x9⟩ := hstep i hlt
    have q0 : Ω .lt (Ω .ci i) (Ω .ci nf) = true := by simp only [wz]; omega
    have hL2' := hL2 i (i + 1)
    clear hstep lt' hlu hla hll ll' gb hL2
    generalize faceU f = U at *
    generalize faceA f = A at *
    obtain ⟨ft, fm⟩ := f
    simp only at x2 x3
    generalize fm.toNat = mi at *
    subst x3
    by_cases h3 : m.kind = 3
    · have q3 : Ω .eq m.kind 3 = true := eq_true'.2 h3
      have x8' := x8 h3
      refine rq ?_
      refine ⟨i + 1, [1050, 1051, 1808, 1907, 2007, 2207], hlt, by omega, rfl, ?_, (by rw [← x5, ← x6, ← x7, ← x8']; rfl)⟩
      refine Eq.trans (b := [.ptr 1050 0, .ptr 1051 0, .d (.sl FD), .d (.i .i64 (Ω .ci nf)), .d (.i .i64 _)]) rfl ?_
      rw [hw]
    · have q3 : Ω .eq m.kind 3 = false := eq_false'.2 h3
      have x9' := hL2' (x9 h3)
      refine rq ?_
      refine ⟨i + 1, [1050, 1051, 1808, 1907, 2007, 1055], hlt, by omega, rfl, ?_, (by rw [← x5, ← x6, ← x7, x9']; rfl)⟩
      refine Eq.trans (b := [.ptr 1050 0, .ptr 1051 0, .d (.sl FD), .d (.i .i64 (Ω .ci nf)), .d (.i .i64 _)]) rfl ?_
      rw [hw]
  · obtain rfl : i = nf := by omega
    have q0 : Ω .lt (Ω .ci i) (Ω .ci i) = false := by simp only [wz]; omega
    clear hstep lt' hlu hla hll ll' hL2
    refine rq ?_
    exact ⟨[1051, 1052, 1053, 1054, 1055], rfl, rfl, rfl⟩
end Go.K.S
end
section
namespace Go.K
open Go
def rblks (Ψ : (t : Sd) → STy t) (MD FD ND OD TD UD AD LD : List D) (s : ScL) (tri vec rat int : TypeId) : List Blk :=
  [.var (rcell Ψ MD FD s (.own 1 27) (.d (.sl ND)) (.d (.sl OD)) (.own 2 9) (.own 3 3) (.own 4 1)), .row false tri 27 TD, .row true vec 9 UD, .row true rat 3 AD, .row true int 1 LD]
def bendM (waves : List RL) (m : MatL) (bin : Nat) (front : Bool) : Option Rat :=
  if m.kind = 1 then some (-1) else if m.kind = 2 then some (if front then (etaM waves m bin).getD 0 else 1 / (etaM waves m bin).getD 0) else none
end Go.K
namespace Go.K.S
open Go Go.K
set_option maxHeartbeats 8000000
set_option maxRecDepth 20000
theorem mat_good (s : ScL) {MD FD ND OD TD UD AD LD : List D} (hD : ScD s MD FD) {face mi : Nat} {f : FaceL} {m : MatL} (hf : s.faces[face]? = some f) (hm : s.mats[mi]? = some m) (hfm : f.mat = Ω .ci mi) :
    Good P F.P_ready_Scene_Mat [.ptr 0 0, .d (.i .i64 (Ω .ci face))] (rblks Ψ MD FD ND OD TD UD AD LD s T.api_Tri T.api_Vec T.api_Rat T.int) (.agg ((dMat Ψ m).map V.d)) (rblks Ψ MD FD ND OD TD UD AD LD s T.api_Tri T.api_Vec T.api_Rat T.int) := by
  refine G.P_ready_Scene_Mat (hb := of_decide_eq_true rfl) fun C C2 hC hC2 => ?_
  have x1 := hD.f face f hf
  have x2 := hD.m mi m hm
  obtain ⟨ft, fm⟩ := f
  simp only at hfm
  subst hfm
  refine rq ?_
  exact ⟨[], rfl, rfl, rfl⟩
theorem ofm1_good : Good P F.rat_Of [.d (.i .i64 (-1)), .d (.i .i64 1)] [] (.d (.agg (dR Ψ (Ψ .cr (-1))))) [] := by
  have g := rof_good (-1) 1 (by omega) (by omega) (by omega) (by omega)
  have e1 : ((-1 : Int) : Rat) / ((1 : Int) : Rat) = -1 := by
    have h1 : ((1 : Int) : Rat) = 1 := rfl
    have h2 : ((-1 : Int) : Rat) = -1 := rfl
    rw [h1, h2]; grind
  rw [e1] at g
  exact g
theorem eta_n {s : ScL} {m : MatL} {bin : Nat} {k : Nat} (ha : Rn k m.a) (hb : Rn k m.b) (hw : ∀ r, r ∈ s.waves → Rn k r) (hk : 0 < k) : Qn (6 * k) ((etaM s.waves m bin).getD 0) := by
  unfold etaM
  cases h : s.waves[bin]? with
  | none => exact Qn_zero (by omega)
  | some w =>
    have hwk := Qn_rv (hw w (List.mem_of_getElem? h)) hk
    simp only
    split
    · exact (Qn_add (Qn_rv ha hk) (Qn_div (Qn_rv hb hk) (Qn_mul hwk hwk (by omega)) (by omega))).mono (by omega)
    · exact Qn_zero (by omega)
theorem bend_good (s : ScL) {MD FD ND OD TD UD AD LD : List D} (hD : ScD s MD FD) {face mi bin : Nat} {f : FaceL} {m : MatL} (hf : s.faces[face]? = some f) (hm : s.mats[mi]? = some m) (hfm : f.mat = Ω .ci mi) (hbin : bin < s.waves.length)
    (ha : Rn 2 m.a) (hb : Rn 2 m.b) (hw : ∀ r, r ∈ s.waves → Rn 2 r) (front : Bool) :
    Good P F.P_ready_Scene_Bend [.ptr 0 0, .d (.i .i64 (Ω .ci face)), .d (.i .i64 (Ω .ci bin)), .d (.b front)] (rblks Ψ MD FD ND OD TD UD AD LD s T.api_Tri T.api_Vec T.api_Rat T.int)
      (.tup [.agg ((dR Ψ (Ψ .cr ((bendM s.waves m bin front).getD 0))).map V.d), .d (.b (bendM s.waves m bin front).isSome)]) (rblks Ψ MD FD ND OD TD UD AD LD s T.api_Tri T.api_Vec T.api_Rat T.int) := by
  refine G.P_ready_Scene_Bend (hb := of_decide_eq_true rfl) fun C C2 hC hC2 => ?_
  have g0 := mat_good (ND := ND) (OD := OD) (TD := TD) (UD := UD) (AD := AD) (LD := LD) s hD hf hm hfm
  have x1 := hD.f face f hf
  have ge := eta_good s hD hm (List.getElem?_eq_getElem hbin) ha hb (hw _ (List.getElem_mem hbin)) (by omega) (by omega)
  have qe := eta_n (s := s) (m := m) (bin := bin) ha hb hw (by omega)
  have g1 := ofm1_good
  have g2 := of11_good
  have g3 := of01_good
  have gd := rdiv_good (Ψ .cr 1) (Ψ .cr ((etaM s.waves m bin).getD 0)) (Rn_cr.2 Qn_one') (Rn_cr.2 qe) (by omega) (by omega) (by omega) (by omega)
  rw [rv_cr, rv_cr] at gd
  unfold bendM
  generalize (etaM s.waves m bin).getD 0 = e at *
  generalize (etaM s.waves m bin).isSome = eo at *
  generalize decide (e ≠ 0) = ez at *
  clear qe hD
  obtain ⟨ft, fm⟩ := f
  simp only at hfm
  subst hfm
  by_cases h1 : m.kind = 1
  · rw [if_pos h1]
    have q1 : Ω .eq m.kind 1 = true := eq_true'.2 h1
    simp only [Option.getD_some, Option.isSome_some]
    generalize Ψ .cr (-1) = M1 at *
    refine rq ?_
    exact ⟨[], rfl, rfl, rfl⟩
  rw [if_neg h1]
  have q1 : Ω .eq m.kind 1 = false := eq_false'.2 h1
  by_cases h2 : m.kind = 2
  · rw [if_pos h2]
    have q2 : Ω .eq m.kind 2 = true := eq_true'.2 h2
    simp only [Option.getD_some, Option.isSome_some]
    cases front with
    | true =>
      simp only [if_true]
      generalize Ψ .cr e = E at *
      refine rq ?_
      exact ⟨[], rfl, rfl, rfl⟩
    | false =>
      simp only [Bool.false_eq_true, if_false]
      generalize Ψ .cr (1 / e) = E1 at *
      generalize Ψ .cr e = E at *
      generalize Ψ .cr 1 = N1 at *
      refine rq ?_
      exact ⟨[], rfl, rfl, rfl⟩
  · rw [if_neg h2]
    have q2 : Ω .eq m.kind 2 = false := eq_false'.2 h2
    simp only [Option.getD_none, Option.isSome_none]
    generalize Ψ .cr 0 = N0 at *
    refine rq ?_
    exact ⟨[], rfl, rfl, rfl⟩
end Go.K.S
end
