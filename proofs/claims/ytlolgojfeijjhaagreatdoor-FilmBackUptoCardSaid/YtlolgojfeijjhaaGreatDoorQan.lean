/-
  Parts of the proof, joined by a program of this work: KRef3, KAuto, KAuto2, KAuto3, KSqrtP, KRoot, KVec, KTri, KRef5, KHit, KRefHit, KCd, KAffS, KScene, KRoot2, KUnit, KScene2, KScene4.
-/
import Derived.Test.YtlolgojfeijjhaaGreatDoorQam
import Derived.Test.YtlolgojfeijjhaaGreatDoorQal
import Derived.Test.YtlolgojfeijjhaaGreatDoorQak
set_option linter.unusedSimpArgs false
set_option linter.unusedVariables false
set_option maxHeartbeats 8000000
set_option maxRecDepth 20000
section
namespace Go.K.S
open Go Go.K
theorem is3_good (a b : RL) {j k : Nat} (ha : Rn j a) (hb : Rn k b) (hj : j < 1099511627776) (hk : k < 1099511627776) :
  Good P F.penumbraref03_Is [.d (.agg (dR Ψ a)), .d (.agg (dR Ψ b))] [] (.d (.b (decide (a = b)))) [] := by
 refine G.penumbraref03_Is fun C C2 hC hC2 => ?_
 have k1 := ha.kn
 have k2 := ha.kd
 have k3 := hb.kn
 have k4 := hb.kd
 have g1 := same1_good a.num b.num (by omega) (by omega)
 have g2 := same1_good a.den b.den (by omega) (by omega)
 obtain ⟨R, hR⟩ : ∃ R, R = decide (a = b) := ⟨_, rfl⟩
 rw [← hR]
 have hR2 : R = (decide (a.neg = b.neg) && (decide (a.num = b.num) && decide (a.den = b.den))) := by
  rw [hR, ← Bool.decide_and, ← Bool.decide_and]
  exact decide_eq_decide.2 RL.ext_iff''
 clear hR
 generalize decide (a.num = b.num) = t1 at *
 generalize decide (a.den = b.den) = t2 at *
 obtain ⟨s, x, y⟩ := a
 obtain ⟨s', x', y'⟩ := b
 simp only at *
 subst hR2
 cases s <;> cases s' <;> cases t1 <;> cases t2
 all_goals exact run trivial
end Go.K.S
end
section
namespace Go.K
theorem slen_scat (a b : List D) : Ω .slen (Ω .scat a b) = Ω .slen a + Ω .slen b := by simp [w_slen, w_scat]
theorem cells_dRs (l : List RL) : ∀ u, u ∈ Ψ .dRs l → u.cells.length = 3 := fun u h => by
 rw [p_dRs, List.mem_map] at h
 obtain ⟨r, _, rfl⟩ := h
 rfl
structure Hid (Q : Prop) : Prop where
 out : Q
end Go.K
end
section
namespace Go.K
end Go.K
end
section
namespace Go.K
theorem rq {P Q : Prop} (q : Q) (h : Hid Q → P := by
 intro q; (generalize hΩ : Ω = ω, hΨ : Ψ = ψ; cbv <;> subst hΩ hΨ <;> try simp only [lits, true_and, Int.reduceAdd, Int.reduceSub, Int.reduceMul, not_u32, slen_nil, tn_ci, tn_zero, slen_lims, slen_dRs, slen_dVs, slen_dBs])
 (repeat (
  first
   | refine ⟨_, hC _ _ _ (by assumption), ?_⟩
   | refine ⟨_, _, hC2 _ _ _ _ _ (by assumption), ?_⟩
   | refine ⟨_, hC2 _ _ _ _ _ (by assumption), rfl, rfl, ?_⟩
   | refine ⟨ci_nonneg _, _, (by assumption), rfl, ?_⟩
   | refine ⟨_, (by assumption), rfl, ?_⟩
   | refine ⟨ci_nonneg _, (by simp only [wz, slen_scat]; omega), _, (by assumption), (by first | exact Nat.le_refl _ | (simp; done)), rfl, ?_⟩
   | refine ⟨(by first | exact fun u h => by rw [List.mem_singleton.1 h]; rfl | exact cells_dRs _ | assumption), (by simp only [wz, slen_scat]; omega), ?_⟩
   | refine BrG.yes (by first | assumption | decide) ?_
   | refine BrG.no (by first | assumption | decide) ?_
  (generalize hΩ : Ω = ω, hΨ : Ψ = ψ; cbv <;> subst hΩ hΨ <;> try simp only [lits, true_and, Int.reduceAdd, Int.reduceSub, Int.reduceMul, not_u32, slen_nil, tn_ci, tn_zero, slen_lims, slen_dRs, slen_dVs, slen_dBs])))
 all_goals with_reducible exact q.out) : P := h ⟨q⟩
end Go.K
end
section
namespace Go.K
open Go
end Go.K
end
section
namespace Go.K
open Go
theorem N_one : N [1] := ⟨by simp [lim_cons, lim_nil], by simp⟩
end Go.K
namespace Go.K.S
open Go Go.K
theorem equal_good (a b : List Nat) (hal : a.length < 1099511627776) (hbl : b.length < 1099511627776) : Good P F.slices_Equal_L_uint32_uint32 [.d (dN Ψ a), .d (dN Ψ b)] [] (.d (.b (decide (a = b)))) [] := by
 refine G.slices_Equal_L_uint32_uint32 fun C C2 hC hC2 => ?_
 generalize hr : decide (a = b) = r
 refine nx ?_
 refine BrG.split (fun h => ?_) (fun h => ?_)
 ·have hne : a.length ≠ b.length := by have := h; simp only [wz] at this ⊢; omega
  have : r = false := by rw [← hr]; exact decide_eq_false (fun q => hne (by rw [q]))
  subst this
  exact nx trivial
 ·have he : a.length = b.length := by have := h; simp only [wz] at this ⊢; omega
  refine nx ?_
  refine LoopG.intro (σ := Nat) [0, 1, 12, 13] [] (fun k => [.d (dN Ψ a), .d (dN Ψ b), .d (.i .i64 (Ω .ci a.length)), .d (.i .i64 (Ω .ci k))]) (fun _ => []) (fun k => k ≤ a.length ∧ a.take k = b.take k) (fun k => a.length - k) 0 []
   ⟨Nat.zero_le _, rfl⟩ ⟨rfl, rfl, rfl⟩ ?_
  rintro k ⟨hk, hd⟩
  refine nx ?_
  refine BrG.split (fun h => ?_) (fun h => ?_)
  ·have hk0 : k < a.length := by have := h; simp only [wz] at this; omega
   obtain ⟨u, hu⟩ : ∃ u, a[k]? = some u := ⟨_, List.getElem?_eq_getElem (by omega)⟩
   obtain ⟨v, hv⟩ : ∃ v, b[k]? = some v := ⟨_, List.getElem?_eq_getElem (by omega)⟩
   refine nx ?_
   refine idx_lims k u rfl hu rfl ?_
   refine nx ?_
   refine idx_lims k v rfl hv rfl ?_
   refine nx ?_
   refine BrG.split (fun h => ?_) (fun h => ?_)
   ·have huv : u ≠ v := by have := h; simp only [wz] at this ⊢; omega
    have : r = false := by
     rw [← hr]
     refine decide_eq_false (fun q => huv ?_)
     rw [q, hv] at hu
     exact (Option.some.inj hu).symm
    subst this
    exact nx trivial
   ·have huv : u = v := by have := h; simp only [wz] at this ⊢; omega
    subst huv
    refine nx ?_
    refine ⟨k + 1, [], ⟨hk0, ?_⟩, by omega, rfl, ?_, rfl⟩
    ·rw [List.take_add_one, List.take_add_one, hd, hu, hv]
    ·refine Eq.trans (b := [V.d (dN Ψ a), V.d (dN Ψ b), .d (.i .i64 (Ω .ci a.length)), V.d (.i .i64 _)]) rfl ?_
     rw [wrap_succ (by omega)]
  ·have hk0 : k = a.length := by have := h; simp only [wz] at this; omega
   subst hk0
   have : r = true := by
    rw [← hr]
    refine decide_eq_true ?_
    rw [List.take_length, he, List.take_length] at hd
    exact hd
   subst this
   exact nx trivial
theorem rcheck_good (r : RL) {k : Nat} (h : Rn k r) (hk0 : 0 < k) (hk : k < 549755813888) : Good P F.rat_Check [.d (.agg (dR Ψ r))] [] (.d (.b (decide (r = Ψ .cr (rv r))))) [] := by
 refine G.rat_Check fun C C2 hC hC2 => ?_
 have g1 := read_good r h hk
 have q := Rn_cr.2 (Qn_rv h hk0)
 generalize Ψ .cr (rv r) = x at *
 have k1 := h.kn
 have k2 := h.kd
 have k3 := q.kn
 have k4 := q.kd
 have g2 := equal_good x.num r.num (by omega) (by omega)
 have g3 := equal_good x.den r.den (by omega) (by omega)
 have hR2 : decide (r = x) = (decide (x.neg = r.neg) && (decide (x.num = r.num) && decide (x.den = r.den))) := by
  rw [← Bool.decide_and, ← Bool.decide_and]
  exact decide_eq_decide.2 (RL.ext_iff''.trans ⟨fun h => ⟨h.1.symm, h.2.1.symm, h.2.2.symm⟩, fun h => ⟨h.1.symm, h.2.1.symm, h.2.2.symm⟩⟩)
 rw [hR2]
 clear hR2
 generalize decide (x.num = r.num) = t1 at *
 generalize decide (x.den = r.den) = t2 at *
 obtain ⟨s, x, y⟩ := x
 obtain ⟨s', x', y'⟩ := r
 simp only at *
 cases s <;> cases s' <;> cases t1 <;> cases t2
 all_goals exact rq trivial
end Go.K.S
end
section
namespace Go.K.S
open Go Go.K
theorem sum2_good (a b : RL) {k : Nat} (ha : Rn k a) (hb : Rn k b) (hk : 0 < k) (hk2 : k < 17179869184) :
  Good P F.rat_Sum [.d (.sl [.agg (dR Ψ a), .agg (dR Ψ b)])] [] (.d (.agg (dR Ψ (Ψ .cr (rv a + rv b))))) [] := by
 have := sum_good [a, b] (k := k) (fun r h => by rcases mem2 h with rfl | rfl <;> assumption) hk (by simp only [List.length_cons, List.length_nil]; omega)
 rw [rsum2] at this
 exact this
theorem prod2_good (a b : RL) {k : Nat} (ha : Rn k a) (hb : Rn k b) (hk : 0 < k) (hk2 : k < 17179869184) :
  Good P F.rat_Product [.d (.sl [.agg (dR Ψ a), .agg (dR Ψ b)])] [] (.d (.agg (dR Ψ (Ψ .cr (rv a * rv b))))) [] := by
 have := product_good [a, b] (k := k) (fun r h => by rcases mem2 h with rfl | rfl <;> assumption) hk (by simp only [List.length_cons, List.length_nil]; omega)
 rw [rprod2] at this
 exact this
end Go.K.S
end
section
namespace Go.K.S
open Go Go.K
end Go.K.S
end
section
namespace Go.K.S
open Go Go.K
end Go.K.S
end
section
namespace Go.K
open Go
structure TL where
 a : VL
 b : VL
 c : VL
structure T3 where
 a : V3
 b : V3
 c : V3
def dT (Ψ : (t : Sd) → STy t) (t : TL) : List D := dV Ψ t.a ++ dV Ψ t.b ++ dV Ψ t.c
structure Tn (k : Nat) (t : TL) : Prop where
 a : Vn k t.a
 b : Vn k t.b
 c : Vn k t.c
theorem Tn.mono {j k : Nat} {t : TL} (h : Tn j t) (hjk : j ≤ k) : Tn k t := ⟨h.a.mono hjk, h.b.mono hjk, h.c.mono hjk⟩
def m0 : M3 := ⟨0, 0, 0⟩
end Go.K
namespace Go.K.S
open Go Go.K
end Go.K.S
end
section
namespace Go.K
open Go
end Go.K
namespace Go.K.S
open Go Go.K
end Go.K.S
end
section
namespace Go.K
open Go
def CD (D N : Nat) (q : Rat) : Prop := ∃ x : Int, q * (D : Rat) = (x : Rat) ∧ x.natAbs ≤ N
structure CV (D N : Nat) (v : V3) : Prop where
 x : CD D N v.x
 y : CD D N v.y
 z : CD D N v.z
theorem CD.mono {D N M : Nat} {q : Rat} (h : CD D N q) (hn : N ≤ M) : CD D M q := by
 obtain ⟨x, h1, h2⟩ := h; exact ⟨x, h1, Nat.le_trans h2 hn⟩
theorem CV.mono {D N M : Nat} {v : V3} (h : CV D N v) (hn : N ≤ M) : CV D M v := ⟨h.x.mono hn, h.y.mono hn, h.z.mono hn⟩
theorem CD.add {D N M : Nat} {p q : Rat} (hp : CD D N p) (hq : CD D M q) : CD D (N + M) (p + q) := by
 obtain ⟨x, h1, h2⟩ := hp
 obtain ⟨y, h3, h4⟩ := hq
 refine ⟨x + y, ?_, Nat.le_trans (Int.natAbs_add_le x y) (by omega)⟩
 rw [Rat.add_mul, h1, h3, Rat.intCast_add]
theorem CD.neg {D N : Nat} {p : Rat} (hp : CD D N p) : CD D N (-p) := by
 obtain ⟨x, h1, h2⟩ := hp
 refine ⟨-x, ?_, by rw [Int.natAbs_neg]; exact h2⟩
 rw [Rat.neg_mul, h1, Rat.intCast_neg]
theorem CD.sub {D N M : Nat} {p q : Rat} (hp : CD D N p) (hq : CD D M q) : CD D (N + M) (p - q) := by
 rw [Rat.sub_eq_add_neg]; exact hp.add hq.neg
theorem CD.mul {D N E M : Nat} {p q : Rat} (hp : CD D N p) (hq : CD E M q) : CD (D * E) (N * M) (p * q) := by
 obtain ⟨x, h1, h2⟩ := hp
 obtain ⟨y, h3, h4⟩ := hq
 refine ⟨x * y, ?_, by rw [Int.natAbs_mul]; exact Nat.mul_le_mul h2 h4⟩
 rw [Rat.natCast_mul, Rat.intCast_mul, ← h1, ← h3]
 grind
theorem CD.up {D N : Nat} {p : Rat} (E : Nat) (hp : CD D N p) : CD (D * E) (N * E) p := by
 obtain ⟨x, h1, h2⟩ := hp
 refine ⟨x * E, ?_, by rw [Int.natAbs_mul, Int.natAbs_natCast]; exact Nat.mul_le_mul_right _ h2⟩
 rw [Rat.natCast_mul, Rat.intCast_mul, ← h1]
 have : ((E : Int) : Rat) = (E : Rat) := rfl
 rw [this]
 grind
theorem CD.up' {D N : Nat} {p : Rat} (E : Nat) (hp : CD D N p) : CD (E * D) (E * N) p := by
 rw [Nat.mul_comm E D, Nat.mul_comm E N]; exact hp.up E
theorem CD.of {k : Nat} {q : Rat} (h : Qn k q) : ∃ D : Nat, 0 < D ∧ D ≤ 4294967296 ^ k ∧ CD D (4294967296 ^ k) q :=
 ⟨q.den, q.den_pos, Nat.le_of_lt h.d, q.num, (by
  have e : (q.num : Rat) / (q.den : Rat) = q := by rw [← Rat.mkRat_eq_div, Rat.mkRat_self]
  have hd : (q.den : Rat) ≠ 0 := by
   intro e
   have e' : ((q.den : Int) : Rat) = ((0 : Int) : Rat) := e
   have := Rat.intCast_inj.1 e'
   have := q.den_pos
   omega
  have h2 : q * (q.den : Rat) = (q.num : Rat) / (q.den : Rat) * (q.den : Rat) := by rw [e]
  rw [h2]; grind), Nat.le_of_lt h.n⟩
theorem CD.size {D N k : Nat} {q : Rat} (h : CD D N q) (hD : 0 < D) (h1 : D < 4294967296 ^ k) (h2 : N < 4294967296 ^ k) (hk : 0 < k) : Qn k q := by
 obtain ⟨x, h3, h4⟩ := h
 have hD' : (D : Rat) ≠ 0 := by
  intro e
  have : ((D : Int) : Rat) = ((0 : Int) : Rat) := e
  have := Rat.intCast_inj.1 this
  omega
 have e : q = mkRat x D := by
  rw [Rat.mkRat_eq_div, ← h3]
  have : ((D : Int) : Rat) = (D : Rat) := rfl
  grind
 rw [e]
 exact Qn_mk (by omega) h1 hk
theorem CV.add {D N M : Nat} {u v : V3} (hu : CV D N u) (hv : CV D M v) : CV D (N + M) (vadd u v) := ⟨hu.x.add hv.x, hu.y.add hv.y, hu.z.add hv.z⟩
theorem CV.sub {D N M : Nat} {u v : V3} (hu : CV D N u) (hv : CV D M v) : CV D (N + M) (vsub u v) := ⟨hu.x.sub hv.x, hu.y.sub hv.y, hu.z.sub hv.z⟩
theorem CV.up {D N : Nat} {v : V3} (E : Nat) (h : CV D N v) : CV (D * E) (N * E) v := ⟨h.x.up E, h.y.up E, h.z.up E⟩
theorem CV.up' {D N : Nat} {v : V3} (E : Nat) (h : CV D N v) : CV (E * D) (E * N) v := ⟨h.x.up' E, h.y.up' E, h.z.up' E⟩
theorem CV.cross {D N E M : Nat} {u v : V3} (hu : CV D N u) (hv : CV E M v) : CV (D * E) (2 * (N * M)) (vcross u v) :=
 ⟨((hu.y.mul hv.z).sub (hu.z.mul hv.y)).mono (by omega), ((hu.z.mul hv.x).sub (hu.x.mul hv.z)).mono (by omega), ((hu.x.mul hv.y).sub (hu.y.mul hv.x)).mono (by omega)⟩
theorem CV.of {k : Nat} {v : V3} (h : Pn k v) : ∃ D : Nat, 0 < D ∧ D ≤ 4294967296 ^ (3 * k) ∧ CV D (4294967296 ^ (3 * k)) v := by
 obtain ⟨d1, p1, q1, c1⟩ := CD.of h.x
 obtain ⟨d2, p2, q2, c2⟩ := CD.of h.y
 obtain ⟨d3, p3, q3, c3⟩ := CD.of h.z
 have e : 4294967296 ^ (3 * k) = 4294967296 ^ k * 4294967296 ^ k * 4294967296 ^ k := by rw [← Nat.pow_add, ← Nat.pow_add]; congr 1; omega
 refine ⟨d1 * d2 * d3, Nat.mul_pos (Nat.mul_pos p1 p2) p3, ?_, ?_⟩
 ·rw [e]; exact Nat.mul_le_mul (Nat.mul_le_mul q1 q2) q3
 ·rw [e]
  refine ⟨((c1.up d2).up d3).mono (Nat.mul_le_mul (Nat.mul_le_mul_left _ q2) q3), ?_, ?_⟩
  ·have := (c2.up' d1).up d3
   exact this.mono (Nat.mul_le_mul (Nat.mul_le_mul_right _ q1) q3)
  ·have := c3.up' (d1 * d2)
   exact this.mono (Nat.mul_le_mul_right _ (Nat.mul_le_mul q1 q2))
end Go.K
end
section
namespace Go.K
open Go
structure M4 where
 x : V3
 y : V3
 z : V3
 move : V3
structure MapL where
 x : VL
 y : VL
 z : VL
 move : VL
def mv (m : MapL) : M4 := ⟨vv m.x, vv m.y, vv m.z, vv m.move⟩
theorem M4.ext_iff' {a b : M4} : a = b ↔ a.x = b.x ∧ a.y = b.y ∧ a.z = b.z ∧ a.move = b.move := by
 cases a; cases b; simp
def e1 : V3 := ⟨1, 0, 0⟩
def e2 : V3 := ⟨0, 1, 0⟩
def e3 : V3 := ⟨0, 0, 1⟩
end Go.K
namespace Go.K
end Go.K
end
section
namespace Go.K
open Go
structure MatL where
 kind : Int
 vals : List RL
 a : RL
 b : RL
structure FaceL where
 tri : TL
 mat : Int
structure ScL where
 waves : List RL
 mats : List MatL
 faces : List FaceL
 eye : VL
 look : VL
 w : Int
 h : Int
 half : RL
def dMat (Ψ : (t : Sd) → STy t) (m : MatL) : List D := .i .i64 m.kind :: .sl (Ψ .dRs m.vals) :: (dR Ψ m.a ++ dR Ψ m.b)
def dFace (Ψ : (t : Sd) → STy t) (f : FaceL) : List D := dT Ψ f.tri ++ [.i .i64 f.mat]
structure Mtn (k : Nat) (m : MatL) : Prop where
 k1 : -9223372036854775808 ≤ m.kind
 k2 : m.kind ≤ 9223372036854775807
 l : m.vals.length ≤ k
 v : ∀ r, r ∈ m.vals → Rn k r
 a : Rn k m.a
 b : Rn k m.b
structure Fcn (k : Nat) (f : FaceL) : Prop where
 k1 : -9223372036854775808 ≤ f.mat
 k2 : f.mat ≤ 9223372036854775807
 t : Tn k f.tri
structure Scn (k : Nat) (s : ScL) : Prop where
 w1 : -9223372036854775808 ≤ s.w
 w2 : s.w ≤ 9223372036854775807
 h1 : -9223372036854775808 ≤ s.h
 h2 : s.h ≤ 9223372036854775807
 wl : s.waves.length ≤ k
 wv : ∀ r, r ∈ s.waves → Rn k r
 ml : s.mats.length ≤ k
 mv : ∀ m, m ∈ s.mats → Mtn k m
 fl : s.faces.length ≤ k
 fv : ∀ f, f ∈ s.faces → Fcn k f
 e : Vn k s.eye
 l : Vn k s.look
 hf : Rn k s.half
end Go.K
end
section
namespace Go.K
open Go
end Go.K
namespace Go.K.S
open Go Go.K
end Go.K.S
end
section
namespace Go.K
open Go
end Go.K
namespace Go.K.S
open Go Go.K
end Go.K.S
end
section
namespace Go.K
open Go
structure ScD (s : ScL) (MD FD : List D) : Prop where
 m : ∀ (i : Nat) m, s.mats[i]? = some m → Ω .sget MD i = some (.agg (dMat Ψ m))
 ml : Ω .slen MD = s.mats.length
 f : ∀ (i : Nat) f, s.faces[i]? = some f → Ω .sget FD i = some (.agg (dFace Ψ f))
 fl : Ω .slen FD = s.faces.length
theorem hx_dRs {l : List RL} {i : Nat} {r : RL} (h : l[i]? = some r) : Ω .sget (Ψ .dRs l) i = some (.agg (dR Ψ r)) := by rw [sget_dRs, h]; rfl
end Go.K
namespace Go.K.S
open Go Go.K
end Go.K.S
end
section
namespace Go.K
open Go
end Go.K
namespace Go.K.S
open Go Go.K
end Go.K.S
end
