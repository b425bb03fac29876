/-
  Parts of the proof, joined by a program of this work: KVecs, KRef3, KAuto, KAuto2, KAuto3, KSqrtP, KRoot, KVec, KTri, KRef5, KHit, KRefHit, KCd, KAffS, KScene.
-/
import Derived.Test.YtjoimiljaljgcaaGreatMbh
import Derived.Test.YtjoimiljaljgcaaGreatMbf
import Derived.Test.YtjoimiljaljgcaaGreatMbg
set_option linter.unusedSimpArgs false
set_option linter.unusedVariables false
set_option maxHeartbeats 8000000
set_option maxRecDepth 20000
section
namespace Go.K
open Go
theorem rsum2 (a b : RL) : rsum [a, b] = rv a + rv b := by simp [rsum, Rat.zero_add]
theorem rsum3 (a b c : RL) : rsum [a, b, c] = rv a + rv b + rv c := by simp [rsum, Rat.zero_add]
theorem rprod2 (a b : RL) : rprod [a, b] = rv a * rv b := by simp [rprod, Rat.one_mul]
theorem mem2 {α : Type} {a b x : α} (h : x ∈ [a, b]) : x = a ∨ x = b := by simpa [wz] using h
theorem mem3 {α : Type} {a b c x : α} (h : x ∈ [a, b, c]) : x = a ∨ x = b ∨ x = c := by simpa [wz] using h
def vv (v : VL) : V3 := ⟨rv v.x, rv v.y, rv v.z⟩
theorem vv_cV (p : V3) : vv (Ψ .cV p) = p := by simp [vv, p_cV, rv_cr]
structure Vn (k : Nat) (v : VL) : Prop where
 x : Rn k v.x
 y : Rn k v.y
 z : Rn k v.z
structure Pn (k : Nat) (p : V3) : Prop where
 x : Qn k p.x
 y : Qn k p.y
 z : Qn k p.z
theorem Vn_cV {k : Nat} {p : V3} (h : Pn k p) : Vn k (Ψ .cV p) := ⟨Rn_cr.2 h.x, Rn_cr.2 h.y, Rn_cr.2 h.z⟩
theorem Pn_vv {k : Nat} {v : VL} (h : Vn k v) (hk : 0 < k) : Pn k (vv v) := ⟨Qn_rv h.x hk, Qn_rv h.y hk, Qn_rv h.z hk⟩
theorem Vn.mono {j k : Nat} {v : VL} (h : Vn j v) (hjk : j ≤ k) : Vn k v := ⟨h.x.mono hjk, h.y.mono hjk, h.z.mono hjk⟩
theorem Pn.mono {j k : Nat} {v : V3} (h : Pn j v) (hjk : j ≤ k) : Pn k v := ⟨h.x.mono hjk, h.y.mono hjk, h.z.mono hjk⟩
def v0 : V3 := ⟨0, 0, 0⟩
def vadd (p q : V3) : V3 := ⟨p.x + q.x, p.y + q.y, p.z + q.z⟩
def vsub (p q : V3) : V3 := ⟨p.x - q.x, p.y - q.y, p.z - q.z⟩
def vmul (s : Rat) (q : V3) : V3 := ⟨s * q.x, s * q.y, s * q.z⟩
def vdot (p q : V3) : Rat := p.x * q.x + p.y * q.y + p.z * q.z
def vcross (p q : V3) : V3 := ⟨p.y * q.z - p.z * q.y, p.z * q.x - p.x * q.z, p.x * q.y - p.y * q.x⟩
theorem Pn_v0 {k : Nat} (hk : 0 < k) : Pn k v0 := ⟨Qn_zero hk, Qn_zero hk, Qn_zero hk⟩
theorem Pn_add {j k : Nat} {p q : V3} (hp : Pn j p) (hq : Pn k q) : Pn (j + k + 1) (vadd p q) := ⟨Qn_add hp.x hq.x, Qn_add hp.y hq.y, Qn_add hp.z hq.z⟩
theorem Pn_sub {j k : Nat} {p q : V3} (hp : Pn j p) (hq : Pn k q) : Pn (j + k + 1) (vsub p q) := ⟨Qn_sub hp.x hq.x, Qn_sub hp.y hq.y, Qn_sub hp.z hq.z⟩
theorem Pn_mul {j k : Nat} {s : Rat} {q : V3} (hp : Qn j s) (hq : Pn k q) (h : 0 < j + k) : Pn (j + k) (vmul s q) := ⟨Qn_mul hp hq.x h, Qn_mul hp hq.y h, Qn_mul hp hq.z h⟩
theorem Qn_dot {j k : Nat} {p q : V3} (hp : Pn j p) (hq : Pn k q) (h : 0 < j + k) : Qn (3 * (j + k) + 2) (vdot p q) := by
 have := Qn_add (Qn_add (Qn_mul hp.x hq.x h) (Qn_mul hp.y hq.y h)) (Qn_mul hp.z hq.z h)
 exact this.mono (by omega)
theorem Pn_cross {j k : Nat} {p q : V3} (hp : Pn j p) (hq : Pn k q) (h : 0 < j + k) : Pn (2 * (j + k) + 1) (vcross p q) :=
 ⟨(Qn_sub (Qn_mul hp.y hq.z h) (Qn_mul hp.z hq.y h)).mono (by omega), (Qn_sub (Qn_mul hp.z hq.x h) (Qn_mul hp.x hq.z h)).mono (by omega), (Qn_sub (Qn_mul hp.x hq.y h) (Qn_mul hp.y hq.x h)).mono (by omega)⟩
theorem sget_dVs (l : List VL) (k : Nat) : Ω .sget (Ψ .dVs l) k = (l[k]?).map fun r => (D.agg (dV Ψ r) : D) := by simp [w_sget, p_dVs]
theorem idx_dVs {l : List VL} {k : Int} {sz : Nat} {R : D → Prop} (kn : Nat) (r : VL) (hk : k = Ω .ci kn) (hv : l[kn]? = some r) (hsz : 9 = sz) (h : R (.agg (dV Ψ r))) :
  Ω .ile 0 k ∧ ∃ x, Ω .sget (Ψ .dVs l) (Ω .tn k) = some x ∧ x.cells.length = sz ∧ R x := by
 subst hk
 refine ⟨ci_nonneg _, .agg (dV Ψ r), ?_, hsz, h⟩
 rw [tn_ci, sget_dVs, hv]; rfl
def vsum (l : List VL) : V3 := (l.map vv).foldl vadd v0
theorem vsum_snoc (l : List VL) (r : VL) : vsum (l ++ [r]) = vadd (vsum l) (vv r) := by simp [vsum]
theorem vsum2 (a b : VL) : vsum [a, b] = vadd (vv a) (vv b) := by simp [vsum, vadd, v0, Rat.zero_add]
end Go.K
namespace Go.K
open Go
theorem VL.ext_iff' {a b : VL} : a = b ↔ a.x = b.x ∧ a.y = b.y ∧ a.z = b.z := by
 cases a; cases b; simp
theorem RL.ext_iff'' {a b : RL} : a = b ↔ a.neg = b.neg ∧ a.num = b.num ∧ a.den = b.den := by
 cases a; cases b; simp
instance : DecidableEq RL := fun _ _ => decidable_of_iff _ RL.ext_iff''.symm
instance : DecidableEq VL := fun _ _ => decidable_of_iff _ VL.ext_iff'.symm
theorem cr_eq_iff {p q : Rat} : Ψ .cr p = Ψ .cr q ↔ p = q := ⟨cr_inj, fun h => by rw [h]⟩
theorem V3.ext_iff' {a b : V3} : a = b ↔ a.x = b.x ∧ a.y = b.y ∧ a.z = b.z := by
 cases a; cases b; simp
instance : DecidableEq V3 := fun _ _ => decidable_of_iff _ V3.ext_iff'.symm
theorem ML.ext_iff' {a b : ML} : a = b ↔ a.s = b.s ∧ a.u = b.u ∧ a.v = b.v := by
 cases a; cases b; simp
instance : DecidableEq ML := fun _ _ => decidable_of_iff _ ML.ext_iff'.symm
theorem M3.ext_iff' {a b : M3} : a = b ↔ a.s = b.s ∧ a.u = b.u ∧ a.v = b.v := by
 cases a; cases b; simp
structure Mn (k : Nat) (v : ML) : Prop where
 s : Rn k v.s
 u : Rn k v.u
 v : Rn k v.v
end Go.K
end
section
namespace Go.K.S
open Go Go.K
theorem zero3_good : Good P F.penumbraref03_Zero [] [] (.d (.agg (dR Ψ (Ψ .cr 0)))) [] := by
 refine G.penumbraref03_Zero fun C C2 hC hC2 => ?_
 rw [cr_zero]
 refine nx ?_
 rfl
theorem one3_good : Good P F.penumbraref03_One [] [] (.d (.agg (dR Ψ (Ψ .cr 1)))) [] := by
 refine G.penumbraref03_One fun C C2 hC hC2 => ?_
 rw [cr_one]
 refine nx ?_
 rfl
theorem read3_good (r : RL) {k : Nat} (h : Rn k r) (hk : k < 137438953472) : Good P F.penumbraref03_Read [.d (.agg (dR Ψ r))] [] (.d (.agg (dR Ψ (Ψ .cr (rv r))))) [] := by
 refine G.penumbraref03_Read fun C C2 hC hC2 => ?_
 have n1 := h.N1 (by omega)
 have n2 := h.N2 (by omega)
 have k1 := h.kn
 have k2 := h.kd
 have g1 := zero1_good r.den n2
 have g2 := zero1_good r.num n1
 have hz := @rv_zero_iff r
 by_cases hd : nv r.den = 0
 ·rw [hz.2 (.inr hd)]
  rw [decide_eq_true hd] at g1
  have g3 := zero3_good
  generalize Ψ .cr 0 = R at *
  obtain ⟨s, x, y⟩ := r
  simp only at *
  refine nx ?_
  refine ⟨_, hC _ _ _ g1, ?_⟩
  refine nx ?_
  refine ⟨_, hC _ _ _ g3, ?_⟩
  exact nx trivial
 rw [decide_eq_false hd] at g1
 by_cases hn : nv r.num = 0
 ·rw [hz.2 (.inl hn)]
  rw [decide_eq_true hn] at g2
  have g3 := zero3_good
  generalize Ψ .cr 0 = R at *
  obtain ⟨s, x, y⟩ := r
  simp only at *
  refine nx ?_
  refine ⟨_, hC _ _ _ g1, ?_⟩
  refine nx ?_
  refine ⟨_, hC _ _ _ g2, ?_⟩
  refine nx ?_
  refine ⟨_, hC _ _ _ g3, ?_⟩
  exact nx trivial
 rw [decide_eq_false hn] at g2
 have g3 := gcd1_good r.num r.den n1 n2 (by omega) (by omega)
 have hcr := cr_mk (b := r.neg) hn hd
 have hrv : rv r = mkRat (sg r.neg (nv r.num)) (nv r.den) := rfl
 rw [← hrv] at hcr
 have hg0 : (nv r.num).gcd (nv r.den) ≠ 0 := Nat.gcd_ne_zero_left hn
 have hgl : (Ψ .cn ((nv r.num).gcd (nv r.den))).length ≤ r.num.length := len_cn.2 (Nat.lt_of_le_of_lt (Nat.gcd_le_left _ (Nat.pos_of_ne_zero hn)) (nv_lt n1.lim))
 have g4 := divmod1_good r.num (Ψ .cn ((nv r.num).gcd (nv r.den))) n1 ⟨lim_cn _, by omega⟩ (by omega) (by omega) (by rw [nv_cn]; exact hg0)
 have g5 := divmod1_good r.den (Ψ .cn ((nv r.num).gcd (nv r.den))) n2 ⟨lim_cn _, by omega⟩ (by omega) (by omega) (by rw [nv_cn]; exact hg0)
 rw [nv_cn] at g4 g5
 obtain ⟨R, hR⟩ : ∃ R, R = Ψ .cr (rv r) := ⟨_, rfl⟩
 rw [← hR] at hcr ⊢
 clear hR hrv hz
 generalize (nv r.num).gcd (nv r.den) = g at *
 generalize nv r.num / g = u1 at *
 generalize nv r.num % g = u2 at *
 generalize nv r.den / g = u3 at *
 generalize nv r.den % g = u4 at *
 obtain ⟨s, x, y⟩ := r
 simp only at *
 subst hcr
 refine nx ?_
 refine ⟨_, hC _ _ _ g1, ?_⟩
 refine nx ?_
 refine ⟨_, hC _ _ _ g2, ?_⟩
 refine nx ?_
 refine ⟨_, hC _ _ _ g3, ?_⟩
 refine nx ?_
 refine ⟨_, hC _ _ _ g4, ?_⟩
 refine nx ?_
 refine ⟨_, hC _ _ _ g5, ?_⟩
 exact nx trivial
theorem is3_good (a b : RL) {j k : Nat} (ha : Rn j a) (hb : Rn k b) (hj : j < 1099511627776) (hk : k < 1099511627776) :
  Good P F.penumbraref03_Is [.d (.agg (dR Ψ a)), .d (.agg (dR Ψ b))] [] (.d (.b (decide (a = b)))) [] := by
 refine G.penumbraref03_Is fun C C2 hC hC2 => ?_
 have k1 := ha.kn
 have k2 := ha.kd
 have k3 := hb.kn
 have k4 := hb.kd
 have g1 := same1_good a.num b.num (by omega) (by omega)
 have g2 := same1_good a.den b.den (by omega) (by omega)
 obtain ⟨R, hR⟩ : ∃ R, R = decide (a = b) := ⟨_, rfl⟩
 rw [← hR]
 have hR2 : R = (decide (a.neg = b.neg) && (decide (a.num = b.num) && decide (a.den = b.den))) := by
  rw [hR, ← Bool.decide_and, ← Bool.decide_and]
  exact decide_eq_decide.2 RL.ext_iff''
 clear hR
 generalize decide (a.num = b.num) = t1 at *
 generalize decide (a.den = b.den) = t2 at *
 obtain ⟨s, x, y⟩ := a
 obtain ⟨s', x', y'⟩ := b
 simp only at *
 subst hR2
 cases s <;> cases s' <;> cases t1 <;> cases t2
 all_goals exact run trivial
theorem abs3_good (n : Int) (h1 : -9223372036854775808 ≤ n) (h2 : n ≤ 9223372036854775807) : Good P F.penumbraref03_abs [.d (.i .i64 n)] [] (.d (dN Ψ (Ψ .cn n.natAbs))) [] := by
 refine G.penumbraref03_abs fun C C2 hC hC2 => ?_
 have g := of1_good n.natAbs (by omega)
 obtain ⟨m, hm⟩ : ∃ m, m = n.natAbs := ⟨_, rfl⟩
 rw [← hm] at g ⊢
 refine nx ?_
 refine BrG.split (fun h => ?_) (fun h => ?_)
 ·have h0 := of_decide_eq_true h
  have e : Ω .wrap .u64 (Ω .wrap .u64 (Ω .wrap .i64 (0 - Ω .wrap .i64 (n + 1))) + 1) = Ω .ci m := by
   rw [wrap64 (n := n + 1) (by omega) (by omega), wrap64 (by omega) (by omega), wrapu64, wrapu64]; simp only [wz]; omega
  refine nx ?_
  rw [e]
  refine ⟨_, hC _ _ _ g, ?_⟩
  exact nx trivial
 ·have h0 := of_decide_eq_false h
  have e : Ω .wrap .u64 n = Ω .ci m := by
   rw [wrapu64]; simp only [wz]; omega
  refine nx ?_
  rw [e]
  refine ⟨_, hC _ _ _ g, ?_⟩
  exact nx trivial
theorem of3_good (n d : Int) (h1 : -9223372036854775808 ≤ n) (h2 : n ≤ 9223372036854775807) (h3 : -9223372036854775808 ≤ d) (h4 : d ≤ 9223372036854775807) :
  Good P F.penumbraref03_Of [.d (.i .i64 n), .d (.i .i64 d)] [] (.d (.agg (dR Ψ (Ψ .cr ((n : Rat) / (d : Rat)))))) [] := by
 refine G.penumbraref03_Of fun C C2 hC hC2 => ?_
 have g1 := abs3_good n h1 h2
 have g2 := abs3_good d h3 h4
 have b1 : n.natAbs < 4294967296 ^ 2 := by omega
 have b2 : d.natAbs < 4294967296 ^ 2 := by omega
 have g3 := fun s => read3_good ⟨s, Ψ .cn n.natAbs, Ψ .cn d.natAbs⟩ (k := 2) ⟨lim_cn _, lim_cn _, len_cn.2 b1, len_cn.2 b2⟩ (by omega)
 simp only [rv_mk, nv_cn] at g3
 have hv := of_mk n d
 obtain ⟨R, hR⟩ : ∃ R, R = Ψ .cr ((n : Rat) / (d : Rat)) := ⟨_, rfl⟩
 rw [← hR]
 rw [← hv] at hR
 clear hv
 generalize n.natAbs = u at *
 generalize d.natAbs = v at *
 have g3' : ∀ s, R = Ψ .cr (mkRat (sg s u) v) → Good P F.penumbraref03_Read [.d (.agg (dR Ψ ⟨s, Ψ .cn u, Ψ .cn v⟩))] [] (.d (.agg (dR Ψ R))) [] := fun s e => e ▸ g3 s
 refine nx ?_
 have hn : n < 0 ∨ 0 ≤ n := by omega
 have hd : d < 0 ∨ 0 ≤ d := by omega
 rcases hn with hn | hn <;> rcases hd with hd | hd
 all_goals
  first | rw [decide_eq_true (show n < 0 by omega)] at * | rw [decide_eq_false (show ¬ n < 0 by omega)] at *
  first | rw [decide_eq_true (show d < 0 by omega)] at hR | rw [decide_eq_false (show ¬ d < 0 by omega)] at hR
  refine nx ?_
  repeat (first
   | (rw [lt_true.2 (show n < 0 by omega)]; refine nx ?_)
   | (rw [lt_false.2 (show 0 ≤ n by omega)]; refine nx ?_)
   | (rw [lt_true.2 (show d < 0 by omega)]; refine nx ?_)
   | (rw [lt_false.2 (show 0 ≤ d by omega)]; refine nx ?_)
   | (rw [le_true.2 (show 0 ≤ n by omega)]; refine nx ?_)
   | (rw [le_false.2 (show n < 0 by omega)]; refine nx ?_)
   | (rw [le_true.2 (show 0 ≤ d by omega)]; refine nx ?_)
   | (rw [le_false.2 (show d < 0 by omega)]; refine nx ?_))
  have g := g3' _ hR
  refine ⟨_, hC _ _ _ g1, ?_⟩
  refine nx ?_
  refine ⟨_, hC _ _ _ g2, ?_⟩
  refine nx ?_
  refine ⟨_, hC _ _ _ g, ?_⟩
  exact nx trivial
theorem sign3_good (r : RL) {k : Nat} (h : Rn k r) (hk : k < 549755813888) : Good P F.penumbraref03_Sign [.d (.agg (dR Ψ r))] [] (.d (.i .i64 (Ψ .sI (rv r)))) [] := by
 refine G.penumbraref03_Sign fun C C2 hC hC2 => ?_
 have g1 := zero1_good r.num (h.N1 (by omega))
 have g2 := zero1_good r.den (h.N2 (by omega))
 have z := @rv_zero_iff r
 have hs := @sI_rv r
 have h0 := @sI_zero (rv r)
 rw [z] at h0
 obtain ⟨R, hR⟩ : ∃ R, R = Ψ .sI (rv r) := ⟨_, rfl⟩
 rw [← hR] at hs h0 ⊢
 by_cases hm : nv r.num = 0
 ·rw [decide_eq_true hm] at g1
  have := h0.2 (.inl hm)
  subst this
  obtain ⟨s, x, y⟩ := r
  simp only at *
  refine nx ?_
  refine ⟨_, hC _ _ _ g1, ?_⟩
  exact nx trivial
 rw [decide_eq_false hm] at g1
 by_cases hn : nv r.den = 0
 ·rw [decide_eq_true hn] at g2
  have := h0.2 (.inr hn)
  subst this
  obtain ⟨s, x, y⟩ := r
  simp only at *
  refine nx ?_
  refine ⟨_, hC _ _ _ g1, ?_⟩
  refine nx ?_
  refine ⟨_, hC _ _ _ g2, ?_⟩
  exact nx trivial
 rw [decide_eq_false hn] at g2
 have := hs hm hn
 subst this
 obtain ⟨s, x, y⟩ := r
 simp only at *
 cases s
 all_goals
  refine nx ?_
  refine ⟨_, hC _ _ _ g1, ?_⟩
  refine nx ?_
  refine ⟨_, hC _ _ _ g2, ?_⟩
  exact nx trivial
theorem mul3_good (a b : RL) {j k : Nat} (ha : Rn j a) (hb : Rn k b) (hj2 : j < 68719476736) (hk2 : k < 68719476736) :
  Good P F.penumbraref03_Mul [.d (.agg (dR Ψ a)), .d (.agg (dR Ψ b))] [] (.d (.agg (dR Ψ (Ψ .cr (rv a * rv b))))) [] := by
 refine G.penumbraref03_Mul fun C C2 hC hC2 => ?_
 have p1 := ha.N1 (by omega)
 have p2 := ha.N2 (by omega)
 have q1 := hb.N1 (by omega)
 have q2 := hb.N2 (by omega)
 have lp1 := ha.kn
 have lp2 := ha.kd
 have lq1 := hb.kn
 have lq2 := hb.kd
 have m1 := mul1_good a.num b.num p1 q1 (by omega) (by omega)
 have m2 := mul1_good a.den b.den p2 q2 (by omega) (by omega)
 have b1 : nv a.num * nv b.num < 4294967296 ^ (j + k) := lt_mul_pow (nv_lt_pow p1.lim lp1) (nv_lt_pow q1.lim lq1)
 have b2 : nv a.den * nv b.den < 4294967296 ^ (j + k) := lt_mul_pow (nv_lt_pow p2.lim lp2) (nv_lt_pow q2.lim lq2)
 have g := read3_good ⟨a.neg != b.neg, Ψ .cn (nv a.num * nv b.num), Ψ .cn (nv a.den * nv b.den)⟩ (k := j + k) ⟨lim_cn _, lim_cn _, len_cn.2 b1, len_cn.2 b2⟩ (by omega)
 rw [rv_mk, nv_cn, nv_cn, ← rv_mul] at g
 generalize nv a.num * nv b.num = u at *
 generalize nv a.den * nv b.den = v at *
 generalize Ψ .cr (rv a * rv b) = R at *
 obtain ⟨s, x, y⟩ := a
 obtain ⟨s', x', y'⟩ := b
 simp only at *
 cases s <;> cases s'
 all_goals
  refine nx ?_
  refine ⟨_, hC _ _ _ m1, ?_⟩
  refine nx ?_
  refine ⟨_, hC _ _ _ m2, ?_⟩
  refine nx ?_
  refine ⟨_, hC _ _ _ g, ?_⟩
  exact nx trivial
theorem neg3_good (r : RL) {k : Nat} (h : Rn k r) (hk : k < 137438953472) : Good P F.penumbraref03_Neg [.d (.agg (dR Ψ r))] [] (.d (.agg (dR Ψ (Ψ .cr (- rv r))))) [] := by
 refine G.penumbraref03_Neg fun C C2 hC hC2 => ?_
 have g := read3_good ⟨!r.neg, r.num, r.den⟩ (k := k) ⟨h.ln, h.ld, h.kn, h.kd⟩ hk
 rw [rv_neg] at g
 generalize Ψ .cr (- rv r) = R at *
 obtain ⟨s, x, y⟩ := r
 simp only at *
 cases s
 all_goals
  refine nx ?_
  refine ⟨_, hC _ _ _ g, ?_⟩
  exact nx trivial
theorem add3_good (a b : RL) {j k : Nat} (ha : Rn j a) (hb : Rn k b) (hj2 : j < 68719476736) (hk2 : k < 68719476736) :
  Good P F.penumbraref03_Add [.d (.agg (dR Ψ a)), .d (.agg (dR Ψ b))] [] (.d (.agg (dR Ψ (Ψ .cr (rv a + rv b))))) [] := by
 refine G.penumbraref03_Add fun C C2 hC hC2 => ?_
 have p1 := ha.N1 (by omega)
 have p2 := ha.N2 (by omega)
 have q1 := hb.N1 (by omega)
 have q2 := hb.N2 (by omega)
 have lp1 := ha.kn
 have lp2 := ha.kd
 have lq1 := hb.kn
 have lq2 := hb.kd
 have s1 := sign3_good a ha (by omega)
 have s2 := sign3_good b hb (by omega)
 have r1 := read3_good a ha (by omega)
 have r2 := read3_good b hb (by omega)
 obtain ⟨R, hR⟩ : ∃ R, R = Ψ .cr (rv a + rv b) := ⟨_, rfl⟩
 rw [← hR]
 by_cases h1 : rv a = 0
 ·have : R = Ψ .cr (rv b) := by rw [hR, h1, Rat.zero_add]
  rw [sI_zero.2 h1] at s1
  rw [← this] at r2
  clear hR this
  obtain ⟨s, x, y⟩ := a
  obtain ⟨s', x', y'⟩ := b
  simp only at *
  refine nx ?_
  refine ⟨_, hC _ _ _ s1, ?_⟩
  refine nx ?_
  refine BrG.yes rfl ?_
  refine nx ?_
  refine ⟨_, hC _ _ _ r2, ?_⟩
  exact nx trivial
 by_cases h2 : rv b = 0
 ·have : R = Ψ .cr (rv a) := by rw [hR, h2, Rat.add_zero]
  have h3 := mt sI_zero.1 h1
  rw [sI_zero.2 h2] at s2
  rw [← this] at r1
  clear hR this h1
  generalize Ψ .sI (rv a) = t at *
  obtain ⟨s, x, y⟩ := a
  obtain ⟨s', x', y'⟩ := b
  simp only at *
  refine nx ?_
  refine ⟨_, hC _ _ _ s1, ?_⟩
  refine nx ?_
  refine BrG.split (fun h => ?_) (fun h => ?_)
  ·exact absurd (by have := h; simp only [wz] at this ⊢; omega) h3
  refine nx ?_
  refine ⟨_, hC _ _ _ s2, ?_⟩
  refine nx ?_
  refine BrG.yes rfl ?_
  refine nx ?_
  refine ⟨_, hC _ _ _ r1, ?_⟩
  exact nx trivial
 have h3 := mt sI_zero.1 h1
 have h4 := mt sI_zero.1 h2
 have hda : nv a.den ≠ 0 := fun c => h1 (rv_zero_iff.2 (.inr c))
 have hdb : nv b.den ≠ 0 := fun c => h2 (rv_zero_iff.2 (.inr c))
 rw [rv_add hda hdb] at hR
 have m1 := mul1_good a.num b.den p1 q2 (by omega) (by omega)
 have m2 := mul1_good b.num a.den q1 p2 (by omega) (by omega)
 have m3 := mul1_good a.den b.den p2 q2 (by omega) (by omega)
 have b1 : nv a.num * nv b.den < 4294967296 ^ (j + k) := lt_mul_pow (nv_lt_pow p1.lim lp1) (nv_lt_pow q2.lim lq2)
 have b2 : nv b.num * nv a.den < 4294967296 ^ (j + k) := by rw [Nat.add_comm]; exact lt_mul_pow (nv_lt_pow q1.lim lq1) (nv_lt_pow p2.lim lp2)
 have b3 : nv a.den * nv b.den < 4294967296 ^ (j + k) := lt_mul_pow (nv_lt_pow p2.lim lp2) (nv_lt_pow q2.lim lq2)
 clear h1 h2 r1 r2 hda hdb
 generalize Ψ .sI (rv a) = t1 at *
 generalize Ψ .sI (rv b) = t2 at *
 generalize nv a.num * nv b.den = x at *
 generalize nv b.num * nv a.den = y at *
 generalize nv a.den * nv b.den = z at *
 obtain ⟨s, n1, d1⟩ := a
 obtain ⟨t, n2, d2⟩ := b
 simp only at *
 have hNx := N_cn b1 (by omega)
 have ny := N_cn b2 (by omega)
 have nz := N_cn b3 (by omega)
 have lx := len_cn.2 b1
 have ly := len_cn.2 b2
 have lz := len_cn.2 b3
 have gadd := add1_good (Ψ .cn x) (Ψ .cn y) hNx ny (by omega) (by omega)
 rw [nv_cn, nv_cn] at gadd
 have badd : x + y < 4294967296 ^ (j + k + 1) := by rw [Nat.pow_succ]; omega
 have bs1 : x - y < 4294967296 ^ (j + k) := by omega
 have bs2 : y - x < 4294967296 ^ (j + k) := by omega
 have g1 := read3_good ⟨s, Ψ .cn (x + y), Ψ .cn z⟩ (k := j + k + 1) ⟨lim_cn _, lim_cn _, len_cn.2 badd, by simp only; omega⟩ (by omega)
 have g2 := read3_good ⟨s, Ψ .cn (x - y), Ψ .cn z⟩ (k := j + k + 1) ⟨lim_cn _, lim_cn _, by have := len_cn.2 bs1; simp only; omega, by simp only; omega⟩ (by omega)
 have g3 := read3_good ⟨t, Ψ .cn (y - x), Ψ .cn z⟩ (k := j + k + 1) ⟨lim_cn _, lim_cn _, by have := len_cn.2 bs2; simp only; omega, by simp only; omega⟩ (by omega)
 rw [rv_mk, nv_cn, nv_cn] at g1 g2 g3
 have gc := cmp1_good (Ψ .cn x) (Ψ .cn y) hNx ny
 rw [nv_cn, nv_cn] at gc
 have hci := @cmpI_nonneg x y
 have gsub : y ≤ x → _ := fun h => sub1_good (Ψ .cn x) (Ψ .cn y) hNx ny (by omega) (by rw [nv_cn, nv_cn]; exact h)
 have gsub3 : x ≤ y → _ := fun h => sub1_good (Ψ .cn y) (Ψ .cn x) ny hNx (by omega) (by rw [nv_cn, nv_cn]; exact h)
 rw [nv_cn, nv_cn] at gsub gsub3
 have e1 : s = t → mkRat (sg s (x + y)) z = mkRat (sg s x + sg t y) z := fun h => by subst h; rw [sg_add_same]
 have e2 : s ≠ t → y ≤ x → mkRat (sg s (x - y)) z = mkRat (sg s x + sg t y) z := fun h h2 => by rw [sg_add_diff h h2]
 have e3 : s ≠ t → x ≤ y → mkRat (sg t (y - x)) z = mkRat (sg s x + sg t y) z := fun h h2 => by rw [Int.add_comm, sg_add_diff (fun c => h c.symm) h2]
 generalize Ψ .cmpI x y = c at *
 refine nx ?_
 refine ⟨_, hC _ _ _ s1, ?_⟩
 refine nx ?_
 refine BrG.split (fun h => ?_) (fun h => ?_)
 ·exact absurd (by have := h; simp only [wz] at this ⊢; omega) h3
 refine nx ?_
 refine ⟨_, hC _ _ _ s2, ?_⟩
 refine nx ?_
 refine BrG.split (fun h => ?_) (fun h => ?_)
 ·exact absurd (by have := h; simp only [wz] at this ⊢; omega) h4
 refine nx ?_
 refine ⟨_, hC _ _ _ m1, ?_⟩
 refine nx ?_
 refine ⟨_, hC _ _ _ m2, ?_⟩
 refine nx ?_
 refine ⟨_, hC _ _ _ m3, ?_⟩
 refine nx ?_
 refine BrG.split (fun h => ?_) (fun h => ?_)
 ·have hst : s = t := by simpa using h
  rw [e1 hst, ← hR] at g1
  refine nx ?_
  refine ⟨_, hC _ _ _ gadd, ?_⟩
  refine nx ?_
  refine ⟨_, hC _ _ _ g1, ?_⟩
  exact nx trivial
 ·have hst : s ≠ t := by simpa using h
  refine nx ?_
  refine ⟨_, hC _ _ _ gc, ?_⟩
  refine nx ?_
  refine BrG.split (fun h => ?_) (fun h => ?_)
  ·have hge := hci.1 (of_decide_eq_true h)
   rw [e2 hst hge, ← hR] at g2
   refine nx ?_
   refine ⟨_, hC _ _ _ (gsub hge), ?_⟩
   refine nx ?_
   refine ⟨_, hC _ _ _ g2, ?_⟩
   exact nx trivial
  ·have hlt := mt hci.2 (of_decide_eq_false h)
   rw [e3 hst (by omega), ← hR] at g3
   refine nx ?_
   refine ⟨_, hC _ _ _ (gsub3 (by omega)), ?_⟩
   refine nx ?_
   refine ⟨_, hC _ _ _ g3, ?_⟩
   exact nx trivial
theorem sub3_good (a b : RL) {j k : Nat} (ha : Rn j a) (hb : Rn k b) (hk : 0 < k) (hj2 : j < 68719476736) (hk2 : k < 68719476736) :
  Good P F.penumbraref03_Sub [.d (.agg (dR Ψ a)), .d (.agg (dR Ψ b))] [] (.d (.agg (dR Ψ (Ψ .cr (rv a - rv b))))) [] := by
 refine G.penumbraref03_Sub fun C C2 hC hC2 => ?_
 have g1 := neg3_good b hb (by omega)
 have g2 := add3_good a (Ψ .cr (- rv b)) ha (Rn_cr.2 (Qn_neg (Qn_rv hb hk))) hj2 hk2
 rw [rv_cr, ← Rat.sub_eq_add_neg] at g2
 generalize Ψ .cr (- rv b) = B at *
 generalize Ψ .cr (rv a - rv b) = R at *
 obtain ⟨s, x, y⟩ := a
 obtain ⟨s', x', y'⟩ := b
 refine nx ?_
 refine ⟨_, hC _ _ _ g1, ?_⟩
 refine nx ?_
 refine ⟨_, hC _ _ _ g2, ?_⟩
 exact nx trivial
theorem div3_good (a b : RL) {j k : Nat} (ha : Rn j a) (hb : Rn k b) (hj2 : j < 68719476736) (hk2 : k < 68719476736) :
  Good P F.penumbraref03_Div [.d (.agg (dR Ψ a)), .d (.agg (dR Ψ b))] [] (.tup [.d (.agg (dR Ψ (Ψ .cr (rv a / rv b)))), .d (.b (decide (rv b ≠ 0)))]) [] := by
 refine G.penumbraref03_Div fun C C2 hC hC2 => ?_
 have g1 := sign3_good b hb (by omega)
 have g3 := zero3_good
 have g4 := mul3_good a ⟨b.neg, b.den, b.num⟩ ha ⟨hb.ld, hb.ln, hb.kd, hb.kn⟩ hj2 hk2
 rw [rv_inv, ← Rat.div_def] at g4
 have z := @sI_zero (rv b)
 obtain ⟨R, hR⟩ : ∃ R, R = Ψ .cr (rv a / rv b) := ⟨_, rfl⟩
 obtain ⟨R2, hR2⟩ : ∃ R, R = decide (rv b ≠ 0) := ⟨_, rfl⟩
 rw [← hR, ← hR2]
 rw [← hR] at g4
 have hz : Ψ .sI (rv b) = 0 → R = Ψ .cr 0 ∧ R2 = false := fun c => by
  have h0 := z.1 c
  rw [hR, hR2, h0, Rat.div_def, Rat.inv_zero, Rat.mul_zero]
  exact ⟨rfl, decide_eq_false (fun q => q rfl)⟩
 have hnz : Ψ .sI (rv b) ≠ 0 → R2 = true := fun c => by
  rw [hR2]
  exact decide_eq_true (fun q => c (z.2 q))
 clear z hR hR2
 generalize Ψ .cr 0 = Z at *
 generalize Ψ .sI (rv b) = s at *
 obtain ⟨sa, xa, ya⟩ := a
 obtain ⟨sb, xb, yb⟩ := b
 simp only at *
 refine nx ?_
 refine ⟨_, hC _ _ _ g1, ?_⟩
 refine nx ?_
 refine BrG.split (fun h => ?_) (fun h => ?_)
 ·have h0 : s = 0 := by have := h; simp only [wz] at this ⊢; omega
  obtain ⟨e1, e2⟩ := hz h0
  subst e1
  subst e2
  refine nx ?_
  refine ⟨_, hC _ _ _ g3, ?_⟩
  exact nx trivial
 ·have h0 : s ≠ 0 := by have := h; simp only [wz] at this ⊢; omega
  have e1 := hnz h0
  subst e1
  refine nx ?_
  refine ⟨_, hC _ _ _ g4, ?_⟩
  exact nx trivial
theorem over3_good (a b : RL) {j k : Nat} (ha : Rn j a) (hb : Rn k b) (hj2 : j < 68719476736) (hk2 : k < 68719476736) :
  Good P F.penumbraref03_Over [.d (.agg (dR Ψ a)), .d (.agg (dR Ψ b))] [] (.d (.agg (dR Ψ (Ψ .cr (rv a / rv b))))) [] := by
 refine G.penumbraref03_Over fun C C2 hC hC2 => ?_
 have g1 := div3_good a b ha hb hj2 hk2
 generalize Ψ .cr (rv a / rv b) = R at *
 generalize decide (rv b ≠ 0) = R2 at *
 obtain ⟨sa, xa, ya⟩ := a
 obtain ⟨sb, xb, yb⟩ := b
 refine nx ?_
 refine ⟨_, hC _ _ _ g1, ?_⟩
 exact nx trivial
theorem cmp3_good (a b : RL) {j k : Nat} (ha : Rn j a) (hb : Rn k b) (hj : 0 < j) (hk : 0 < k) (hj2 : j < 68719476736) (hk2 : k < 68719476736) :
  Good P F.penumbraref03_Cmp [.d (.agg (dR Ψ a)), .d (.agg (dR Ψ b))] [] (.d (.i .i64 (Ψ .cI (rv a) (rv b)))) [] := by
 refine G.penumbraref03_Cmp fun C C2 hC hC2 => ?_
 have g1 := sub3_good a b ha hb hk hj2 hk2
 have g2 := sign3_good (Ψ .cr (rv a - rv b)) (Rn_cr.2 (Qn_sub (Qn_rv ha hj) (Qn_rv hb hk))) (by omega)
 rw [rv_cr, cI_sub] at g2
 generalize Ψ .cr (rv a - rv b) = R at *
 generalize Ψ .cI (rv a) (rv b) = c at *
 obtain ⟨sa, xa, ya⟩ := a
 obtain ⟨sb, xb, yb⟩ := b
 refine nx ?_
 refine ⟨_, hC _ _ _ g1, ?_⟩
 refine nx ?_
 refine ⟨_, hC _ _ _ g2, ?_⟩
 exact nx trivial
end Go.K.S
end
section
namespace Go.K
theorem slen_scat (a b : List D) : Ω .slen (Ω .scat a b) = Ω .slen a + Ω .slen b := by simp [w_slen, w_scat]
theorem cells_dRs (l : List RL) : ∀ u, u ∈ Ψ .dRs l → u.cells.length = 3 := fun u h => by
 rw [p_dRs, List.mem_map] at h
 obtain ⟨r, _, rfl⟩ := h
 rfl
theorem scat_dRs (l m : List RL) : Ω .scat (Ψ .dRs l) (Ψ .dRs m) = Ψ .dRs (l ++ m) := by simp [w_scat, p_dRs]
structure Hid (Q : Prop) : Prop where
 out : Q
theorem rn {P Q : Prop} (q : Q) (h : Hid Q → P := by
 intro q; (generalize hΩ : Ω = ω, hΨ : Ψ = ψ; cbv <;> subst hΩ hΨ <;> try simp only [lits, true_and, Int.reduceAdd, Int.reduceSub, Int.reduceMul, not_u32, slen_nil, tn_ci, tn_zero, slen_lims, slen_dRs, slen_dVs, slen_dBs])
 (repeat (
  first
   | refine ⟨_, hC _ _ _ (by assumption), ?_⟩
   | refine ⟨ci_nonneg _, _, (by assumption), rfl, ?_⟩
   | refine ⟨_, (by assumption), rfl, ?_⟩
   | refine ⟨ci_nonneg _, (by simp only [wz]; omega), _, (by assumption), (by first | exact Nat.le_refl _ | (simp; done)), rfl, ?_⟩
   | refine ⟨(by first | exact fun u h => by rw [List.mem_singleton.1 h]; rfl | exact cells_dRs _ | assumption), (by simp only [wz, slen_scat]; omega), ?_⟩
   | refine BrG.yes (by first | assumption | decide) ?_
   | refine BrG.no (by first | assumption | decide) ?_
  (generalize hΩ : Ω = ω, hΨ : Ψ = ψ; cbv <;> subst hΩ hΨ <;> try simp only [lits, true_and, Int.reduceAdd, Int.reduceSub, Int.reduceMul, not_u32, slen_nil, tn_ci, tn_zero, slen_lims, slen_dRs, slen_dVs, slen_dBs])))
 all_goals with_reducible exact q.out) : P := h ⟨q⟩
end Go.K
end
section
namespace Go.K
theorem rk {P Q : Prop} (q : Q) (h : Hid Q → P := by
 intro q; (generalize hΩ : Ω = ω, hΨ : Ψ = ψ; cbv <;> subst hΩ hΨ <;> try simp only [lits, true_and, Int.reduceAdd, Int.reduceSub, Int.reduceMul, not_u32, slen_nil, tn_ci, tn_zero, slen_lims, slen_dRs, slen_dVs, slen_dBs])
 (repeat (
  first
   | refine ⟨_, hC _ _ _ (by assumption), ?_⟩
   | refine ⟨_, _, hC2 _ _ _ _ _ (by assumption), ?_⟩
   | refine ⟨ci_nonneg _, _, (by assumption), rfl, ?_⟩
   | refine ⟨_, (by assumption), rfl, ?_⟩
   | refine ⟨ci_nonneg _, (by simp only [wz, slen_scat]; omega), _, (by assumption), (by first | exact Nat.le_refl _ | (simp; done)), rfl, ?_⟩
   | refine ⟨(by first | exact fun u h => by rw [List.mem_singleton.1 h]; rfl | exact cells_dRs _ | assumption), (by simp only [wz, slen_scat]; omega), ?_⟩
   | refine BrG.yes (by first | assumption | decide) ?_
   | refine BrG.no (by first | assumption | decide) ?_
  (generalize hΩ : Ω = ω, hΨ : Ψ = ψ; cbv <;> subst hΩ hΨ <;> try simp only [lits, true_and, Int.reduceAdd, Int.reduceSub, Int.reduceMul, not_u32, slen_nil, tn_ci, tn_zero, slen_lims, slen_dRs, slen_dVs, slen_dBs])))
 all_goals with_reducible exact q.out) : P := h ⟨q⟩
end Go.K
end
section
namespace Go.K
theorem rq {P Q : Prop} (q : Q) (h : Hid Q → P := by
 intro q; (generalize hΩ : Ω = ω, hΨ : Ψ = ψ; cbv <;> subst hΩ hΨ <;> try simp only [lits, true_and, Int.reduceAdd, Int.reduceSub, Int.reduceMul, not_u32, slen_nil, tn_ci, tn_zero, slen_lims, slen_dRs, slen_dVs, slen_dBs])
 (repeat (
  first
   | refine ⟨_, hC _ _ _ (by assumption), ?_⟩
   | refine ⟨_, _, hC2 _ _ _ _ _ (by assumption), ?_⟩
   | refine ⟨_, hC2 _ _ _ _ _ (by assumption), rfl, rfl, ?_⟩
   | refine ⟨ci_nonneg _, _, (by assumption), rfl, ?_⟩
   | refine ⟨_, (by assumption), rfl, ?_⟩
   | refine ⟨ci_nonneg _, (by simp only [wz, slen_scat]; omega), _, (by assumption), (by first | exact Nat.le_refl _ | (simp; done)), rfl, ?_⟩
   | refine ⟨(by first | exact fun u h => by rw [List.mem_singleton.1 h]; rfl | exact cells_dRs _ | assumption), (by simp only [wz, slen_scat]; omega), ?_⟩
   | refine BrG.yes (by first | assumption | decide) ?_
   | refine BrG.no (by first | assumption | decide) ?_
  (generalize hΩ : Ω = ω, hΨ : Ψ = ψ; cbv <;> subst hΩ hΨ <;> try simp only [lits, true_and, Int.reduceAdd, Int.reduceSub, Int.reduceMul, not_u32, slen_nil, tn_ci, tn_zero, slen_lims, slen_dRs, slen_dVs, slen_dBs])))
 all_goals with_reducible exact q.out) : P := h ⟨q⟩
end Go.K
end
section
namespace Go.K
open Go
def sq : Nat → Nat
 | 0 => 0
 | n + 1 => if (sq n + 1) * (sq n + 1) ≤ n + 1 then sq n + 1 else sq n
theorem sq_le : ∀ n, sq n * sq n ≤ n
 | 0 => Nat.le_refl _
 | n + 1 => by
  rw [sq]
  split
  ·assumption
  ·exact Nat.le_trans (sq_le n) (by omega)
theorem lt_sq : ∀ n, n < (sq n + 1) * (sq n + 1)
 | 0 => by decide
 | n + 1 => by
  have h := lt_sq n
  rw [sq]
  split
  ·generalize sq n = s at *
   have : (s + 1 + 1) * (s + 1 + 1) = (s + 1) * (s + 1) + 2 * (s + 1) + 1 := by grind
   omega
  ·omega
theorem sq_unique {n x : Nat} (h1 : x * x ≤ n) (h2 : n < (x + 1) * (x + 1)) : sq n = x := by
 have h3 := sq_le n
 have h4 := lt_sq n
 generalize sq n = s at *
 rcases Nat.lt_trichotomy s x with h | h | h
 ·have := Nat.mul_le_mul (show s + 1 ≤ x by omega) (show s + 1 ≤ x by omega); omega
 ·exact h
 ·have := Nat.mul_le_mul (show x + 1 ≤ s by omega) (show x + 1 ≤ s by omega); omega
theorem sq_zero_iff {n : Nat} : sq n = 0 ↔ n = 0 := by
 constructor
 ·intro h
  have := lt_sq n
  rw [h] at this
  omega
 ·rintro rfl; rfl
theorem le_sq {n x : Nat} (h : x * x ≤ n) : x ≤ sq n := by
 have h4 := lt_sq n
 generalize sq n = s at *
 rcases Nat.lt_or_ge s x with h2 | h2
 ·have := Nat.mul_le_mul (show s + 1 ≤ x by omega) (show s + 1 ≤ x by omega); omega
 ·exact h2
theorem sq_self (x : Nat) : sq (x * x) = x := sq_unique (Nat.le_refl _) (by grind)
theorem newton {n x : Nat} (hx : 0 < x) (h : sq n ≤ x) : sq n ≤ (x + n / x) / 2 := by
 have h3 := sq_le n
 generalize sq n = s at *
 have key : 2 * s ≤ x + n / x := by
  rcases Nat.lt_or_ge (2 * s) (x + 1) with q | q
  ·have := Nat.le_add_right x (n / x)
   exact Nat.le_trans (by omega) this
  ·have : 2 * s - x ≤ n / x := by
    rw [Nat.le_div_iff_mul_le hx]
    refine Nat.le_trans ?_ h3
    obtain ⟨e, rfl⟩ : ∃ e, x = s + e := ⟨x - s, by omega⟩
    have e2 : 2 * s - (s + e) = s - e := by omega
    rw [e2]
    obtain ⟨f, rfl⟩ : ∃ f, s = e + f := ⟨s - e, by omega⟩
    have e3 : e + f - e = f := by omega
    rw [e3]
    have : (e + f) * (e + f) = f * (e + f + e) + e * e := by grind
    omega
   omega
 rw [Nat.le_div_iff_mul_le (by omega)]
 omega
theorem newton_end {n x : Nat} (hx : 0 < x) (h : sq n ≤ x) (hy : x ≤ (x + n / x) / 2) : sq n = x := by
 have h1 : x ≤ n / x := by
  generalize n / x = q at *
  omega
 rw [Nat.le_div_iff_mul_le hx] at h1
 have := le_sq h1
 omega
theorem newton_start {n k : Nat} (h : n < 2 ^ k) : sq n ≤ 2 ^ ((k + 1) / 2) := by
 have h3 := sq_le n
 generalize sq n = s at *
 rcases Nat.lt_or_ge (2 ^ ((k + 1) / 2)) s with h2 | h2
 ·have h4 := Nat.mul_le_mul (Nat.le_of_lt h2) (Nat.le_of_lt h2)
  rw [← Nat.pow_add] at h4
  have h5 : 2 ^ k ≤ 2 ^ ((k + 1) / 2 + (k + 1) / 2) := Nat.pow_le_pow_right (by omega) (by omega)
  omega
 ·exact h2
def Bitw (n x i : Nat) : Prop := x * x ≤ n ∧ n < (x + 2 ^ i) * (x + 2 ^ i)
theorem bitw_start {n k : Nat} (h : n < 2 ^ k) : Bitw n 0 ((k + 1) / 2 + 1) := by
 refine ⟨by simp, ?_⟩
 rw [Nat.zero_add, ← Nat.pow_add]
 exact Nat.lt_of_lt_of_le h (Nat.pow_le_pow_right (by omega) (by omega))
theorem bitw_yes {n x i : Nat} (h : Bitw n x (i + 1)) (hy : (x + 2 ^ i) * (x + 2 ^ i) ≤ n) : Bitw n (x + 2 ^ i) i := by
 refine ⟨hy, ?_⟩
 have := h.2
 rw [Nat.pow_succ] at this
 rw [show x + 2 ^ i + 2 ^ i = x + 2 ^ i * 2 by omega]
 exact this
theorem bitw_no {n x i : Nat} (h : Bitw n x (i + 1)) (hy : ¬ (x + 2 ^ i) * (x + 2 ^ i) ≤ n) : Bitw n x i := ⟨h.1, by omega⟩
theorem bitw_end {n x : Nat} (h : Bitw n x 0) : sq n = x := sq_unique h.1 h.2
end Go.K
end
section
namespace Go.K
open Go
theorem N_one : N [1] := ⟨by simp [lim_cons, lim_nil], by simp⟩
theorem N_two : N [2] := ⟨by simp [lim_cons, lim_nil], by simp⟩
end Go.K
namespace Go.K.S
open Go Go.K
theorem root_good (a : List Nat) (ha : N a) (hl : a.length ≤ 4096) :
  Good P F.root_Sqrt [.d (dN Ψ a)] [] (.tup [.d (dN Ψ (Ψ .cn (sq (nv a)))), .d (.b (decide (sq (nv a) * sq (nv a) = nv a)))]) [] := by
 refine G.root_Sqrt fun C C2 hC hC2 => ?_
 obtain ⟨m, hm, hm2⟩ : ∃ m, a.length ≤ m ∧ m ≤ 4096 := ⟨4096, hl, Nat.le_refl _⟩
 have hp2 : ∀ k, (4294967296 : Nat) ^ k = 2 ^ (32 * k) := fun k => by rw [show (4294967296 : Nat) = 2 ^ 32 from rfl, ← Nat.pow_mul]
 have hM : nv a < 4294967296 ^ m := Nat.lt_of_lt_of_le (nv_lt ha.lim) (B_mono hm)
 have g1 := norm_good a ha
 generalize nv a = n at *
 have hN : ∀ x, x < 4294967296 ^ (m + 1) → N (Ψ .cn x) ∧ (Ψ .cn x).length ≤ m + 1 := fun x h => ⟨⟨lim_cn _, by have := len_cn.2 h; omega⟩, len_cn.2 h⟩
 have hM1 : (4294967296 : Nat) ^ m < 4294967296 ^ (m + 1) := Nat.pow_lt_pow_right (by omega) (by omega)
 have hnm := Nat.lt_trans hM hM1
 have hNn := (hN n hnm).1
 have g2 := bits_good (Ψ .cn n) hNn
 rw [nv_cn] at g2
 have hbm : bl n ≤ 32 * m := bl_le.2 (by rw [← hp2]; exact hM)
 have hb : bl n ≤ 131072 := by omega
 have g3 := shl_good [1] ((bl n + 1) / 2) N_one (by simp) (by omega)
 rw [show nv [1] * 2 ^ ((bl n + 1) / 2) = 2 ^ ((bl n + 1) / 2) by simp] at g3
 have h0 := newton_start (bl_lt n)
 have hx0 : 2 ^ ((bl n + 1) / 2) < 4294967296 ^ (m + 1) := by
  refine Nat.lt_of_lt_of_le (Nat.pow_lt_pow_right (by omega) (show (bl n + 1) / 2 < 32 * (m + 1) by clear hM hM1 hN hnm; omega)) ?_
  rw [hp2]
  exact Nat.le_refl _
 have hxp : 0 < 2 ^ ((bl n + 1) / 2) := Nat.pow_pos (by omega)
 refine nx ?_
 refine ⟨_, hC _ _ _ g1, ?_⟩
 refine nx ?_
 refine BrG.split (fun h => ?_) (fun h => ?_)
 ·have : (Ψ .cn n).length = 0 := by have := h; simp only [wz] at this ⊢; omega
  have hn : n = 0 := cn_eq_nil.1 (List.eq_nil_of_length_eq_zero this)
  subst hn
  refine nx ?_
  rw [show sq 0 = 0 from rfl, cn_zero]
  rfl
 have hn : n ≠ 0 := fun e => by
  subst e
  rw [cn_zero] at h
  simp [wz] at h
 refine nx ?_
 refine ⟨_, hC _ _ _ g2, ?_⟩
 refine nx ?_
 rw [show Ω .wrap .i64 ((Ω .wrap .i64 (Ω .ci (bl n) + 1)).tdiv 2) = Ω .ci ((bl n + 1) / 2) by
  rw [wrap_succ (by omega), show (2 : Int) = Ω .ci 2 from rfl, w_ci, w_ci, ← Int.ofNat_tdiv, ← w_ci, wrap_ci (by omega)]]
 refine ⟨_, hC _ _ _ g3, ?_⟩
 generalize 2 ^ ((bl n + 1) / 2) = x0 at *
 refine nx ?_
 refine LoopG.intro (σ := Nat) [0, 4] [] (fun x => [.d (dN Ψ (Ψ .cn n)), .d (dN Ψ (Ψ .cn x))]) (fun _ => [])
  (fun x => 0 < x ∧ sq n ≤ x ∧ x < 4294967296 ^ (m + 1)) (fun x => x) x0 [] ⟨hxp, h0, hx0⟩ ⟨rfl, rfl, rfl⟩ ?_
 rintro x ⟨hx, hs, hxl⟩
 have k1 := divmod_good (Ψ .cn n) (Ψ .cn x) hNn (hN x hxl).1 (by have := (hN n hnm).2; omega) (by rw [nv_cn]; omega)
 rw [nv_cn, nv_cn] at k1
 have hq : n / x < 4294967296 ^ (m + 1) := Nat.lt_of_le_of_lt (Nat.div_le_self _ _) hnm
 have k2 := add_good (Ψ .cn x) (Ψ .cn (n / x)) (hN x hxl).1 (hN _ hq).1 (by have := (hN x hxl).2; omega) (by have := (hN _ hq).2; omega)
 rw [nv_cn, nv_cn] at k2
 have hsum : x + n / x < 4294967296 ^ (m + 1 + 1) := by rw [Nat.pow_succ]; omega
 have hNs : N (Ψ .cn (x + n / x)) := ⟨lim_cn _, by have := len_cn.2 hsum; omega⟩
 have k3 := divmod_good (Ψ .cn (x + n / x)) [2] hNs N_two (by have := len_cn.2 hsum; omega) (by simp)
 rw [nv_cn, show nv [2] = 2 by simp] at k3
 have hy : (x + n / x) / 2 < 4294967296 ^ (m + 1) := by omega
 have k4 := cmp_good (Ψ .cn ((x + n / x) / 2)) (Ψ .cn x) (hN _ hy).1 (hN x hxl).1
 rw [nv_cn, nv_cn] at k4
 have e1 := newton hx hs
 have e2 := newton_end (n := n) hx hs
 have hci := @cmpI_nonneg ((x + n / x) / 2) x
 have hxx : x * x < 4294967296 ^ (m + 1 + (m + 1)) := lt_mul_pow hxl hxl
 have k5 := mul_good (Ψ .cn x) (Ψ .cn x) (hN x hxl).1 (hN x hxl).1 (by have := (hN x hxl).2; omega) (by have := (hN x hxl).2; omega)
 rw [nv_cn] at k5
 have k6 := cmp_good (Ψ .cn (x * x)) (Ψ .cn n) ⟨lim_cn _, by have := len_cn.2 hxx; omega⟩ hNn
 rw [nv_cn, nv_cn] at k6
 have hc0 := @cmpI_zero (x * x) n
 have hsn : sq n ≠ 0 := mt sq_zero_iff.1 hn
 generalize (x + n / x) % 2 = r2 at *
 generalize hyy : (x + n / x) / 2 = y at *
 generalize x + n / x = w at *
 generalize n % x = r1 at *
 generalize n / x = q at *
 generalize Ψ .cmpI y x = c1 at *
 generalize Ψ .cmpI (x * x) n = c2 at *
 refine nx ?_
 refine ⟨_, hC _ _ _ k1, ?_⟩
 refine nx ?_
 refine ⟨_, hC _ _ _ k2, ?_⟩
 refine nx ?_
 refine ⟨_, hC _ _ _ k3, ?_⟩
 refine nx ?_
 refine ⟨_, hC _ _ _ k4, ?_⟩
 refine nx ?_
 refine BrG.split (fun h => ?_) (fun h => ?_)
 ·have hge := hci.1 (of_decide_eq_true h)
  have e3 := e2 hge
  rw [e3]
  refine nx ?_
  refine ⟨_, hC _ _ _ k5, ?_⟩
  refine nx ?_
  refine ⟨_, hC _ _ _ k6, ?_⟩
  refine nx ?_
  refine BrG.split (fun h => ?_) (fun h => ?_)
  ·rw [decide_eq_true (hc0.1 (eq_true'.1 h))]
   exact nx trivial
  ·rw [decide_eq_false (mt hc0.2 (eq_false'.1 h))]
   exact nx trivial
 ·have hlt := mt hci.2 (of_decide_eq_false h)
  refine nx ?_
  exact ⟨y, [], ⟨by omega, e1, hy⟩, by omega, rfl, rfl, rfl⟩
theorem equal_good (a b : List Nat) (hal : a.length < 1099511627776) (hbl : b.length < 1099511627776) : Good P F.slices_Equal_L_uint32_uint32 [.d (dN Ψ a), .d (dN Ψ b)] [] (.d (.b (decide (a = b)))) [] := by
 refine G.slices_Equal_L_uint32_uint32 fun C C2 hC hC2 => ?_
 generalize hr : decide (a = b) = r
 refine nx ?_
 refine BrG.split (fun h => ?_) (fun h => ?_)
 ·have hne : a.length ≠ b.length := by have := h; simp only [wz] at this ⊢; omega
  have : r = false := by rw [← hr]; exact decide_eq_false (fun q => hne (by rw [q]))
  subst this
  exact nx trivial
 ·have he : a.length = b.length := by have := h; simp only [wz] at this ⊢; omega
  refine nx ?_
  refine LoopG.intro (σ := Nat) [0, 1, 12, 13] [] (fun k => [.d (dN Ψ a), .d (dN Ψ b), .d (.i .i64 (Ω .ci a.length)), .d (.i .i64 (Ω .ci k))]) (fun _ => []) (fun k => k ≤ a.length ∧ a.take k = b.take k) (fun k => a.length - k) 0 []
   ⟨Nat.zero_le _, rfl⟩ ⟨rfl, rfl, rfl⟩ ?_
  rintro k ⟨hk, hd⟩
  refine nx ?_
  refine BrG.split (fun h => ?_) (fun h => ?_)
  ·have hk0 : k < a.length := by have := h; simp only [wz] at this; omega
   obtain ⟨u, hu⟩ : ∃ u, a[k]? = some u := ⟨_, List.getElem?_eq_getElem (by omega)⟩
   obtain ⟨v, hv⟩ : ∃ v, b[k]? = some v := ⟨_, List.getElem?_eq_getElem (by omega)⟩
   refine nx ?_
   refine idx_lims k u rfl hu rfl ?_
   refine nx ?_
   refine idx_lims k v rfl hv rfl ?_
   refine nx ?_
   refine BrG.split (fun h => ?_) (fun h => ?_)
   ·have huv : u ≠ v := by have := h; simp only [wz] at this ⊢; omega
    have : r = false := by
     rw [← hr]
     refine decide_eq_false (fun q => huv ?_)
     rw [q, hv] at hu
     exact (Option.some.inj hu).symm
    subst this
    exact nx trivial
   ·have huv : u = v := by have := h; simp only [wz] at this ⊢; omega
    subst huv
    refine nx ?_
    refine ⟨k + 1, [], ⟨hk0, ?_⟩, by omega, rfl, ?_, rfl⟩
    ·rw [List.take_add_one, List.take_add_one, hd, hu, hv]
    ·refine Eq.trans (b := [V.d (dN Ψ a), V.d (dN Ψ b), .d (.i .i64 (Ω .ci a.length)), V.d (.i .i64 _)]) rfl ?_
     rw [wrap_succ (by omega)]
  ·have hk0 : k = a.length := by have := h; simp only [wz] at this; omega
   subst hk0
   have : r = true := by
    rw [← hr]
    refine decide_eq_true ?_
    rw [List.take_length, he, List.take_length] at hd
    exact hd
   subst this
   exact nx trivial
theorem rcheck_good (r : RL) {k : Nat} (h : Rn k r) (hk0 : 0 < k) (hk : k < 549755813888) : Good P F.rat_Check [.d (.agg (dR Ψ r))] [] (.d (.b (decide (r = Ψ .cr (rv r))))) [] := by
 refine G.rat_Check fun C C2 hC hC2 => ?_
 have g1 := read_good r h hk
 have q := Rn_cr.2 (Qn_rv h hk0)
 generalize Ψ .cr (rv r) = x at *
 have k1 := h.kn
 have k2 := h.kd
 have k3 := q.kn
 have k4 := q.kd
 have g2 := equal_good x.num r.num (by omega) (by omega)
 have g3 := equal_good x.den r.den (by omega) (by omega)
 have hR2 : decide (r = x) = (decide (x.neg = r.neg) && (decide (x.num = r.num) && decide (x.den = r.den))) := by
  rw [← Bool.decide_and, ← Bool.decide_and]
  exact decide_eq_decide.2 (RL.ext_iff''.trans ⟨fun h => ⟨h.1.symm, h.2.1.symm, h.2.2.symm⟩, fun h => ⟨h.1.symm, h.2.1.symm, h.2.2.symm⟩⟩)
 rw [hR2]
 clear hR2
 generalize decide (x.num = r.num) = t1 at *
 generalize decide (x.den = r.den) = t2 at *
 obtain ⟨s, x, y⟩ := x
 obtain ⟨s', x', y'⟩ := r
 simp only at *
 cases s <;> cases s' <;> cases t1 <;> cases t2
 all_goals exact rq trivial
end Go.K.S
end
section
namespace Go.K.S
open Go Go.K
theorem sum2_good (a b : RL) {k : Nat} (ha : Rn k a) (hb : Rn k b) (hk : 0 < k) (hk2 : k < 17179869184) :
  Good P F.rat_Sum [.d (.sl [.agg (dR Ψ a), .agg (dR Ψ b)])] [] (.d (.agg (dR Ψ (Ψ .cr (rv a + rv b))))) [] := by
 have := sum_good [a, b] (k := k) (fun r h => by rcases mem2 h with rfl | rfl <;> assumption) hk (by simp only [List.length_cons, List.length_nil]; omega)
 rw [rsum2] at this
 exact this
theorem sum3_good (a b c : RL) {k : Nat} (ha : Rn k a) (hb : Rn k b) (hc : Rn k c) (hk : 0 < k) (hk2 : k < 17179869183) :
  Good P F.rat_Sum [.d (.sl [.agg (dR Ψ a), .agg (dR Ψ b), .agg (dR Ψ c)])] [] (.d (.agg (dR Ψ (Ψ .cr (rv a + rv b + rv c))))) [] := by
 have := sum_good [a, b, c] (k := k) (fun r h => by rcases mem3 h with rfl | rfl | rfl <;> assumption) hk (by simp only [List.length_cons, List.length_nil]; omega)
 rw [rsum3] at this
 exact this
theorem prod2_good (a b : RL) {k : Nat} (ha : Rn k a) (hb : Rn k b) (hk : 0 < k) (hk2 : k < 17179869184) :
  Good P F.rat_Product [.d (.sl [.agg (dR Ψ a), .agg (dR Ψ b)])] [] (.d (.agg (dR Ψ (Ψ .cr (rv a * rv b))))) [] := by
 have := product_good [a, b] (k := k) (fun r h => by rcases mem2 h with rfl | rfl <;> assumption) hk (by simp only [List.length_cons, List.length_nil]; omega)
 rw [rprod2] at this
 exact this
theorem vof_good (x y z : Int) (h1 : -9223372036854775808 ≤ x) (h2 : x ≤ 9223372036854775807) (h3 : -9223372036854775808 ≤ y) (h4 : y ≤ 9223372036854775807) (h5 : -9223372036854775808 ≤ z) (h6 : z ≤ 9223372036854775807) :
  Good P F.vec_Of [.d (.i .i64 x), .d (.i .i64 y), .d (.i .i64 z)] [] (.d (.agg (dV Ψ (Ψ .cV ⟨x, y, z⟩)))) [] := by
 refine G.vec_Of fun C C2 hC hC2 => ?_
 have g1 := rof_good x 1 h1 h2 (by omega) (by omega)
 have g2 := rof_good y 1 h3 h4 (by omega) (by omega)
 have g3 := rof_good z 1 h5 h6 (by omega) (by omega)
 have e : ∀ n : Int, (n : Rat) / ((1 : Int) : Rat) = n := fun n => by
  have : ((1 : Int) : Rat) = 1 := rfl
  rw [this]; grind
 rw [e] at g1 g2 g3
 have hV : Ψ .cV ⟨x, y, z⟩ = ⟨Ψ .cr x, Ψ .cr y, Ψ .cr z⟩ := rfl
 rw [hV]
 generalize Ψ .cr (x : Rat) = X at *
 generalize Ψ .cr (y : Rat) = Y at *
 generalize Ψ .cr (z : Rat) = Z at *
 refine nx ?_
 refine ⟨_, hC _ _ _ g1, ?_⟩
 refine nx ?_
 refine ⟨_, hC _ _ _ g2, ?_⟩
 refine nx ?_
 refine ⟨_, hC _ _ _ g3, ?_⟩
 exact nx trivial
theorem vsub_good (a b : VL) {k : Nat} (ha : Vn k a) (hb : Vn k b) (hk : 0 < k) (hk2 : k < 68719476736) :
  Good P F.vec_Sub [.d (.agg (dV Ψ a)), .d (.agg (dV Ψ b))] [] (.d (.agg (dV Ψ (Ψ .cV (vsub (vv a) (vv b)))))) [] := by
 refine G.vec_Sub fun C C2 hC hC2 => ?_
 have g1 := rsub_good a.x b.x ha.x hb.x hk hk hk2 hk2
 have g2 := rsub_good a.y b.y ha.y hb.y hk hk hk2 hk2
 have g3 := rsub_good a.z b.z ha.z hb.z hk hk hk2 hk2
 have hV : Ψ .cV (vsub (vv a) (vv b)) = ⟨Ψ .cr (rv a.x - rv b.x), Ψ .cr (rv a.y - rv b.y), Ψ .cr (rv a.z - rv b.z)⟩ := rfl
 rw [hV]
 generalize Ψ .cr (rv a.x - rv b.x) = X at *
 generalize Ψ .cr (rv a.y - rv b.y) = Y at *
 generalize Ψ .cr (rv a.z - rv b.z) = Z at *
 refine nx ?_
 refine ⟨_, hC _ _ _ g1, ?_⟩
 refine nx ?_
 refine ⟨_, hC _ _ _ g2, ?_⟩
 refine nx ?_
 refine ⟨_, hC _ _ _ g3, ?_⟩
 exact nx trivial
theorem vscale_good (s : RL) (b : VL) {k : Nat} (ha : Rn k s) (hb : Vn k b) (hk : 0 < k) (hk2 : k < 17179869184) :
  Good P F.vec_Scale [.d (.agg (dR Ψ s)), .d (.agg (dV Ψ b))] [] (.d (.agg (dV Ψ (Ψ .cV (vmul (rv s) (vv b)))))) [] := by
 refine G.vec_Scale fun C C2 hC hC2 => ?_
 have g1 := prod2_good s b.x ha hb.x hk hk2
 have g2 := prod2_good s b.y ha hb.y hk hk2
 have g3 := prod2_good s b.z ha hb.z hk hk2
 have hV : Ψ .cV (vmul (rv s) (vv b)) = ⟨Ψ .cr (rv s * rv b.x), Ψ .cr (rv s * rv b.y), Ψ .cr (rv s * rv b.z)⟩ := rfl
 rw [hV]
 generalize Ψ .cr (rv s * rv b.x) = X at *
 generalize Ψ .cr (rv s * rv b.y) = Y at *
 generalize Ψ .cr (rv s * rv b.z) = Z at *
 refine nx ?_
 refine ⟨_, hC _ _ _ g1, ?_⟩
 refine nx ?_
 refine ⟨_, hC _ _ _ g2, ?_⟩
 refine nx ?_
 refine ⟨_, hC _ _ _ g3, ?_⟩
 exact nx trivial
theorem vdot_good (a b : VL) {k : Nat} (ha : Vn k a) (hb : Vn k b) (hk : 0 < k) (hk2 : k < 8589934590) :
  Good P F.vec_Dot [.d (.agg (dV Ψ a)), .d (.agg (dV Ψ b))] [] (.d (.agg (dR Ψ (Ψ .cr (vdot (vv a) (vv b)))))) [] := by
 refine G.vec_Dot fun C C2 hC hC2 => ?_
 have g1 := prod2_good a.x b.x ha.x hb.x hk (by omega)
 have g2 := prod2_good a.y b.y ha.y hb.y hk (by omega)
 have g3 := prod2_good a.z b.z ha.z hb.z hk (by omega)
 have q1 := Rn_cr.2 (Qn_mul (Qn_rv ha.x hk) (Qn_rv hb.x hk) (by omega))
 have q2 := Rn_cr.2 (Qn_mul (Qn_rv ha.y hk) (Qn_rv hb.y hk) (by omega))
 have q3 := Rn_cr.2 (Qn_mul (Qn_rv ha.z hk) (Qn_rv hb.z hk) (by omega))
 have g4 := sum3_good _ _ _ q1 q2 q3 (by omega) (by omega)
 rw [rv_cr, rv_cr, rv_cr] at g4
 have hV : vdot (vv a) (vv b) = rv a.x * rv b.x + rv a.y * rv b.y + rv a.z * rv b.z := rfl
 rw [hV]
 generalize Ψ .cr (rv a.x * rv b.x + rv a.y * rv b.y + rv a.z * rv b.z) = W at *
 generalize Ψ .cr (rv a.x * rv b.x) = X at *
 generalize Ψ .cr (rv a.y * rv b.y) = Y at *
 generalize Ψ .cr (rv a.z * rv b.z) = Z at *
 refine nx ?_
 refine ⟨_, hC _ _ _ g1, ?_⟩
 refine nx ?_
 refine ⟨_, hC _ _ _ g2, ?_⟩
 refine nx ?_
 refine ⟨_, hC _ _ _ g3, ?_⟩
 refine nx ?_
 refine ⟨_, hC _ _ _ g4, ?_⟩
 exact nx trivial
theorem minor_good (a b c d : RL) {k : Nat} (ha : Rn k a) (hb : Rn k b) (hc : Rn k c) (hd : Rn k d) (hk : 0 < k) (hk2 : k < 17179869184) :
  Good P F.vec_minor [.d (.agg (dR Ψ a)), .d (.agg (dR Ψ b)), .d (.agg (dR Ψ c)), .d (.agg (dR Ψ d))] [] (.d (.agg (dR Ψ (Ψ .cr (rv a * rv d - rv b * rv c))))) [] := by
 refine G.vec_minor fun C C2 hC hC2 => ?_
 have g1 := prod2_good a d ha hd hk hk2
 have g2 := prod2_good b c hb hc hk hk2
 have q1 := Rn_cr.2 (Qn_mul (Qn_rv ha hk) (Qn_rv hd hk) (by omega))
 have q2 := Rn_cr.2 (Qn_mul (Qn_rv hb hk) (Qn_rv hc hk) (by omega))
 have g4 := rsub_good _ _ q1 q2 (by omega) (by omega) (by omega) (by omega)
 rw [rv_cr, rv_cr] at g4
 generalize Ψ .cr (rv a * rv d - rv b * rv c) = W at *
 generalize Ψ .cr (rv a * rv d) = X at *
 generalize Ψ .cr (rv b * rv c) = Y at *
 refine nx ?_
 refine ⟨_, hC _ _ _ g1, ?_⟩
 refine nx ?_
 refine ⟨_, hC _ _ _ g2, ?_⟩
 refine nx ?_
 refine ⟨_, hC _ _ _ g4, ?_⟩
 exact nx trivial
theorem vcross_good (a b : VL) {k : Nat} (ha : Vn k a) (hb : Vn k b) (hk : 0 < k) (hk2 : k < 17179869184) :
  Good P F.vec_Cross [.d (.agg (dV Ψ a)), .d (.agg (dV Ψ b))] [] (.d (.agg (dV Ψ (Ψ .cV (vcross (vv a) (vv b)))))) [] := by
 refine G.vec_Cross fun C C2 hC hC2 => ?_
 have g1 := minor_good a.y a.z b.y b.z ha.y ha.z hb.y hb.z hk hk2
 have g2 := minor_good a.z a.x b.z b.x ha.z ha.x hb.z hb.x hk hk2
 have g3 := minor_good a.x a.y b.x b.y ha.x ha.y hb.x hb.y hk hk2
 have hV : Ψ .cV (vcross (vv a) (vv b)) = ⟨Ψ .cr (rv a.y * rv b.z - rv a.z * rv b.y), Ψ .cr (rv a.z * rv b.x - rv a.x * rv b.z), Ψ .cr (rv a.x * rv b.y - rv a.y * rv b.x)⟩ := rfl
 rw [hV]
 generalize Ψ .cr (rv a.y * rv b.z - rv a.z * rv b.y) = X at *
 generalize Ψ .cr (rv a.z * rv b.x - rv a.x * rv b.z) = Y at *
 generalize Ψ .cr (rv a.x * rv b.y - rv a.y * rv b.x) = Z at *
 refine nx ?_
 refine ⟨_, hC _ _ _ g1, ?_⟩
 refine nx ?_
 refine ⟨_, hC _ _ _ g2, ?_⟩
 refine nx ?_
 refine ⟨_, hC _ _ _ g3, ?_⟩
 exact nx trivial
end Go.K.S
end
section
namespace Go.K.S
open Go Go.K
theorem vsum_good (l : List VL) {k : Nat} (hl : ∀ r, r ∈ l → Vn k r) (hk : 0 < k) (hs : (l.length + 1) * (k + 1) < 17179869184) :
  Good P F.vec_Sum [.d (.sl (Ψ .dVs l))] [] (.d (.agg (dV Ψ (Ψ .cV (vsum l))))) [] := by
 refine G.vec_Sum fun C C2 hC hC2 => ?_
 have hln : l.length < 17179869184 := by
  have := Nat.le_mul_of_pos_right (l.length + 1) (show 0 < k + 1 by omega)
  omega
 have hq : ∀ i, i ≤ l.length → Pn (i * (k + 1) + 1) (vsum (l.take i)) := fun i => by
  induction i with
  | zero => intro _; exact Pn_v0 (by omega)
  | succ i ih =>
   intro hi
   obtain ⟨r, hr⟩ : ∃ r, l[i]? = some r := ⟨_, List.getElem?_eq_getElem (by omega)⟩
   rw [take_succ_of hr, vsum_snoc]
   refine (Pn_add (ih (by omega)) (Pn_vv (hl r (List.mem_of_getElem? hr)) hk)).mono ?_
   rw [Nat.add_mul]; omega
 have hbd : ∀ i, i ≤ l.length → i * (k + 1) + 1 + k < 17179869184 := fun i hi => by
  have := Nat.mul_le_mul_right (k + 1) hi
  rw [Nat.add_mul] at hs
  omega
 have hst : ∀ i r, l[i]? = some r → vsum (l.take (i + 1)) = vadd (vsum (l.take i)) (vv r) := fun i r hr => by rw [take_succ_of hr, vsum_snoc]
 have hlast : vsum (l.take l.length) = vsum l := by rw [List.take_length]
 have hz : vsum (l.take 0) = v0 := rfl
 obtain ⟨R0, hR0⟩ : ∃ R, R = vsum l := ⟨_, rfl⟩
 rw [← hR0] at hlast ⊢
 obtain ⟨S, hS⟩ : ∃ S : Nat → V3, S = fun i => vsum (l.take i) := ⟨_, rfl⟩
 have hSe : ∀ i, vsum (l.take i) = S i := fun i => by rw [hS]
 simp only [hSe] at hq hst hlast hz
 clear hSe hS
 have g0 := vof_good 0 0 0 (by omega) (by omega) (by omega) (by omega) (by omega) (by omega)
 have e0 : (⟨((0 : Int) : Rat), ((0 : Int) : Rat), ((0 : Int) : Rat)⟩ : V3) = S 0 := by rw [hz]; rfl
 rw [e0] at g0
 refine nx ?_
 refine ⟨_, hC _ _ _ g0, ?_⟩
 refine nx ?_
 refine LoopG.intro (σ := Nat) [2, 3, 7, 8, 9] [1050, 1051]
   (fun i => [.ptr 1050 0, .ptr 1051 0, .d (.sl (Ψ .dVs l)), .d (.i .i64 (Ω .ci l.length)), .d (.i .i64 (Ω .ci i))])
   (fun i => [.var [.d (.b false), .nil, .nil, .d (.b false), .nil, .nil, .d (.b false), .nil, .nil], .var ((dV Ψ (Ψ .cV (S i))).map V.d)])
   (fun i => i ≤ l.length)
   (fun i => l.length - i) 0 [1000, 1101] (Nat.zero_le _) ⟨rfl, rfl, rfl⟩ ?_
 intro i hi
 have q := hq i hi
 have hb := hbd i hi
 refine nx ?_
 refine BrG.split (fun h => ?_) (fun h => ?_)
 ·have hlen : i < l.length := by have := h; simp only [wz] at this; omega
  obtain ⟨r, hr⟩ : ∃ r, l[i]? = some r := ⟨_, List.getElem?_eq_getElem hlen⟩
  have hrn := hl r (List.mem_of_getElem? hr)
  have hsi := hst i r hr
  have qn := Vn_cV (q.mono (show _ ≤ i * (k + 1) + 1 + k by omega))
  have rn := hrn.mono (show k ≤ i * (k + 1) + 1 + k by omega)
  have g1 := sum2_good (Ψ .cV (S i)).x r.x qn.x rn.x (by omega) hb
  have g2 := sum2_good (Ψ .cV (S i)).y r.y qn.y rn.y (by omega) hb
  have g3 := sum2_good (Ψ .cV (S i)).z r.z qn.z rn.z (by omega) hb
  have e1 : rv (Ψ .cV (S i)).x + rv r.x = (S (i + 1)).x := by rw [hsi]; show rv (Ψ .cr _) + _ = _; rw [rv_cr]; rfl
  have e2 : rv (Ψ .cV (S i)).y + rv r.y = (S (i + 1)).y := by rw [hsi]; show rv (Ψ .cr _) + _ = _; rw [rv_cr]; rfl
  have e3 : rv (Ψ .cV (S i)).z + rv r.z = (S (i + 1)).z := by rw [hsi]; show rv (Ψ .cr _) + _ = _; rw [rv_cr]; rfl
  rw [e1] at g1
  rw [e2] at g2
  rw [e3] at g3
  refine nx ?_
  refine idx_dVs i r rfl hr rfl ?_
  refine nx ?_
  refine ⟨_, hC _ _ _ g1, ?_⟩
  refine nx ?_
  refine ⟨_, hC _ _ _ g2, ?_⟩
  refine nx ?_
  refine ⟨_, hC _ _ _ g3, ?_⟩
  refine nx ?_
  refine ⟨i + 1, [1050, 1051], hlen, by omega, rfl, ?_, rfl⟩
  refine Eq.trans (b := [.ptr 1050 0, .ptr 1051 0, .d (.sl (Ψ .dVs l)), .d (.i .i64 (Ω .ci l.length)), .d (.i .i64 _)]) rfl ?_
  rw [wrap_succ (by omega)]
 ·have hlen : i = l.length := by have := h; simp only [wz] at this; omega
  rw [← hlen] at hlast
  subst hlast
  exact nx trivial
theorem vsum2_good (a b : VL) {k : Nat} (ha : Vn k a) (hb : Vn k b) (hk : 0 < k) (hk2 : k < 4294967296) :
  Good P F.vec_Sum [.d (.sl [.agg (dV Ψ a), .agg (dV Ψ b)])] [] (.d (.agg (dV Ψ (Ψ .cV (vadd (vv a) (vv b)))))) [] := by
 have := vsum_good [a, b] (k := k) (fun r h => by rcases mem2 h with rfl | rfl <;> assumption) hk (by simp only [List.length_cons, List.length_nil]; omega)
 rw [vsum2] at this
 exact this
theorem at_good (o d : VL) (s : RL) {k : Nat} (ho : Vn k o) (hd : Vn k d) (hs : Rn k s) (hk : 0 < k) (hk2 : k < 2147483648) :
  Good P F.tri_At [.d (.agg (dV Ψ o)), .d (.agg (dV Ψ d)), .d (.agg (dR Ψ s))] [] (.d (.agg (dV Ψ (Ψ .cV (vadd (vv o) (vmul (rv s) (vv d))))))) [] := by
 refine G.tri_At fun C C2 hC hC2 => ?_
 have g1 := vscale_good s d hs hd hk (by omega)
 have q1 := Vn_cV (Pn_mul (Qn_rv hs hk) (Pn_vv hd hk) (by omega))
 have g2 := vsum2_good o (Ψ .cV (vmul (rv s) (vv d))) (ho.mono (show k ≤ k + k by omega)) q1 (by omega) (by omega)
 rw [vv_cV] at g2
 generalize Ψ .cV (vadd (vv o) (vmul (rv s) (vv d))) = W at *
 generalize Ψ .cV (vmul (rv s) (vv d)) = X at *
 refine nx ?_
 refine ⟨_, hC _ _ _ g1, ?_⟩
 refine nx ?_
 refine ⟨_, hC _ _ _ g2, ?_⟩
 exact nx trivial
end Go.K.S
end
section
namespace Go.K.S
open Go Go.K
theorem is5_good (a b : VL) {j k : Nat} (ha : Vn j a) (hb : Vn k b) (hj : j < 1099511627776) (hk : k < 1099511627776) :
  Good P F.penumbraref05_Is [.d (.agg (dV Ψ a)), .d (.agg (dV Ψ b))] [] (.d (.b (decide (a = b)))) [] := by
 refine G.penumbraref05_Is fun C C2 hC hC2 => ?_
 have g1 := is3_good a.x b.x ha.x hb.x hj hk
 have g2 := is3_good a.y b.y ha.y hb.y hj hk
 have g3 := is3_good a.z b.z ha.z hb.z hj hk
 obtain ⟨R, hR⟩ : ∃ R, R = decide (a = b) := ⟨_, rfl⟩
 rw [← hR]
 have hR2 : R = (decide (a.x = b.x) && (decide (a.y = b.y) && decide (a.z = b.z))) := by
  rw [hR, ← Bool.decide_and, ← Bool.decide_and]
  exact decide_eq_decide.2 VL.ext_iff'
 clear hR
 generalize decide (a.x = b.x) = t1 at *
 generalize decide (a.y = b.y) = t2 at *
 generalize decide (a.z = b.z) = t3 at *
 subst hR2
 cases t1
 ·refine nx ?_
  refine ⟨_, hC _ _ _ g1, ?_⟩
  exact nx trivial
 cases t2
 ·refine nx ?_
  refine ⟨_, hC _ _ _ g1, ?_⟩
  refine nx ?_
  refine ⟨_, hC _ _ _ g2, ?_⟩
  exact nx trivial
 cases t3
 all_goals
  refine nx ?_
  refine ⟨_, hC _ _ _ g1, ?_⟩
  refine nx ?_
  refine ⟨_, hC _ _ _ g2, ?_⟩
  refine nx ?_
  refine ⟨_, hC _ _ _ g3, ?_⟩
  exact nx trivial
theorem zero5_good : Good P F.penumbraref05_Zero [] [] (.d (.agg (dV Ψ (Ψ .cV v0)))) [] := by
 refine G.penumbraref05_Zero fun C C2 hC hC2 => ?_
 have g := zero3_good
 have hV : Ψ .cV v0 = ⟨Ψ .cr 0, Ψ .cr 0, Ψ .cr 0⟩ := rfl
 rw [hV]
 generalize Ψ .cr 0 = Z at *
 refine nx ?_
 refine ⟨_, hC _ _ _ g, ?_⟩
 refine nx ?_
 refine ⟨_, hC _ _ _ g, ?_⟩
 refine nx ?_
 refine ⟨_, hC _ _ _ g, ?_⟩
 exact nx trivial
theorem read5_good (v : VL) {k : Nat} (h : Vn k v) (hk : k < 137438953472) : Good P F.penumbraref05_Read [.d (.agg (dV Ψ v))] [] (.d (.agg (dV Ψ (Ψ .cV (vv v))))) [] := by
 refine G.penumbraref05_Read fun C C2 hC hC2 => ?_
 have g1 := read3_good v.x h.x hk
 have g2 := read3_good v.y h.y hk
 have g3 := read3_good v.z h.z hk
 have hV : Ψ .cV (vv v) = ⟨Ψ .cr (rv v.x), Ψ .cr (rv v.y), Ψ .cr (rv v.z)⟩ := rfl
 rw [hV]
 generalize Ψ .cr (rv v.x) = X at *
 generalize Ψ .cr (rv v.y) = Y at *
 generalize Ψ .cr (rv v.z) = Z at *
 refine nx ?_
 refine ⟨_, hC _ _ _ g1, ?_⟩
 refine nx ?_
 refine ⟨_, hC _ _ _ g2, ?_⟩
 refine nx ?_
 refine ⟨_, hC _ _ _ g3, ?_⟩
 exact nx trivial
theorem add5_good (a b : VL) {k : Nat} (ha : Vn k a) (hb : Vn k b) (hk2 : k < 68719476736) :
  Good P F.penumbraref05_Add [.d (.agg (dV Ψ a)), .d (.agg (dV Ψ b))] [] (.d (.agg (dV Ψ (Ψ .cV (vadd (vv a) (vv b)))))) [] := by
 refine G.penumbraref05_Add fun C C2 hC hC2 => ?_
 have g1 := add3_good a.x b.x ha.x hb.x hk2 hk2
 have g2 := add3_good a.y b.y ha.y hb.y hk2 hk2
 have g3 := add3_good a.z b.z ha.z hb.z hk2 hk2
 have hV : Ψ .cV (vadd (vv a) (vv b)) = ⟨Ψ .cr (rv a.x + rv b.x), Ψ .cr (rv a.y + rv b.y), Ψ .cr (rv a.z + rv b.z)⟩ := rfl
 rw [hV]
 generalize Ψ .cr (rv a.x + rv b.x) = X at *
 generalize Ψ .cr (rv a.y + rv b.y) = Y at *
 generalize Ψ .cr (rv a.z + rv b.z) = Z at *
 refine nx ?_
 refine ⟨_, hC _ _ _ g1, ?_⟩
 refine nx ?_
 refine ⟨_, hC _ _ _ g2, ?_⟩
 refine nx ?_
 refine ⟨_, hC _ _ _ g3, ?_⟩
 exact nx trivial
theorem scale5_good (s : RL) (b : VL) {k : Nat} (ha : Rn k s) (hb : Vn k b) (hk2 : k < 68719476736) :
  Good P F.penumbraref05_Scale [.d (.agg (dR Ψ s)), .d (.agg (dV Ψ b))] [] (.d (.agg (dV Ψ (Ψ .cV (vmul (rv s) (vv b)))))) [] := by
 refine G.penumbraref05_Scale fun C C2 hC hC2 => ?_
 have g1 := mul3_good s b.x ha hb.x hk2 hk2
 have g2 := mul3_good s b.y ha hb.y hk2 hk2
 have g3 := mul3_good s b.z ha hb.z hk2 hk2
 have hV : Ψ .cV (vmul (rv s) (vv b)) = ⟨Ψ .cr (rv s * rv b.x), Ψ .cr (rv s * rv b.y), Ψ .cr (rv s * rv b.z)⟩ := rfl
 rw [hV]
 generalize Ψ .cr (rv s * rv b.x) = X at *
 generalize Ψ .cr (rv s * rv b.y) = Y at *
 generalize Ψ .cr (rv s * rv b.z) = Z at *
 refine nx ?_
 refine ⟨_, hC _ _ _ g1, ?_⟩
 refine nx ?_
 refine ⟨_, hC _ _ _ g2, ?_⟩
 refine nx ?_
 refine ⟨_, hC _ _ _ g3, ?_⟩
 exact nx trivial
theorem at8_good (o d : VL) (s : RL) {k : Nat} (ho : Vn k o) (hd : Vn k d) (hs : Rn k s) (hk : 0 < k) (hk2 : k < 34359738368) :
  Good P F.penumbraref08_At [.d (.agg (dV Ψ o)), .d (.agg (dV Ψ d)), .d (.agg (dR Ψ s))] [] (.d (.agg (dV Ψ (Ψ .cV (vadd (vv o) (vmul (rv s) (vv d))))))) [] := by
 refine G.penumbraref08_At fun C C2 hC hC2 => ?_
 have g1 := scale5_good s d hs hd (by omega)
 have q1 := Vn_cV (Pn_mul (Qn_rv hs hk) (Pn_vv hd hk) (by omega))
 have g2 := add5_good o (Ψ .cV (vmul (rv s) (vv d))) (ho.mono (show k ≤ k + k by omega)) q1 (by omega)
 rw [vv_cV] at g2
 generalize Ψ .cV (vadd (vv o) (vmul (rv s) (vv d))) = W at *
 generalize Ψ .cV (vmul (rv s) (vv d)) = X at *
 refine nx ?_
 refine ⟨_, hC _ _ _ g1, ?_⟩
 refine nx ?_
 refine ⟨_, hC _ _ _ g2, ?_⟩
 exact nx trivial
end Go.K.S
end
section
namespace Go.K
open Go
structure TL where
 a : VL
 b : VL
 c : VL
structure T3 where
 a : V3
 b : V3
 c : V3
def tv (t : TL) : T3 := ⟨vv t.a, vv t.b, vv t.c⟩
def dT (Ψ : (t : Sd) → STy t) (t : TL) : List D := dV Ψ t.a ++ dV Ψ t.b ++ dV Ψ t.c
structure Tn (k : Nat) (t : TL) : Prop where
 a : Vn k t.a
 b : Vn k t.b
 c : Vn k t.c
theorem Tn.mono {j k : Nat} {t : TL} (h : Tn j t) (hjk : j ≤ k) : Tn k t := ⟨h.a.mono hjk, h.b.mono hjk, h.c.mono hjk⟩
def m0 : M3 := ⟨0, 0, 0⟩
def hitS (o d : V3) (t : T3) : Option M3 :=
 if vdot (vsub t.b t.a) (vcross d (vsub t.c t.a)) = 0 then none
 else if 1 / vdot (vsub t.b t.a) (vcross d (vsub t.c t.a)) * vdot (vsub o t.a) (vcross d (vsub t.c t.a)) < 0 then none
 else if 1 / vdot (vsub t.b t.a) (vcross d (vsub t.c t.a)) * vdot d (vcross (vsub o t.a) (vsub t.b t.a)) < 0 ∨ 1 / vdot (vsub t.b t.a) (vcross d (vsub t.c t.a)) * vdot (vsub t.c t.a) (vcross (vsub o t.a) (vsub t.b t.a)) ≤ 0
   ∨ 1 < 1 / vdot (vsub t.b t.a) (vcross d (vsub t.c t.a)) * vdot (vsub o t.a) (vcross d (vsub t.c t.a)) + 1 / vdot (vsub t.b t.a) (vcross d (vsub t.c t.a)) * vdot d (vcross (vsub o t.a) (vsub t.b t.a)) then none
 else some ⟨1 / vdot (vsub t.b t.a) (vcross d (vsub t.c t.a)) * vdot (vsub t.c t.a) (vcross (vsub o t.a) (vsub t.b t.a)), 1 / vdot (vsub t.b t.a) (vcross d (vsub t.c t.a)) * vdot (vsub o t.a) (vcross d (vsub t.c t.a)),
   1 / vdot (vsub t.b t.a) (vcross d (vsub t.c t.a)) * vdot d (vcross (vsub o t.a) (vsub t.b t.a))⟩
def hitM (o d : V3) (t : T3) : M3 := (hitS o d t).getD m0
def hitOk (o d : V3) (t : T3) : Bool := (hitS o d t).isSome
theorem of01 : ((0 : Int) : Rat) / ((1 : Int) : Rat) = 0 := by
 have : ((1 : Int) : Rat) = 1 := rfl
 have h2 : ((0 : Int) : Rat) = 0 := rfl
 rw [this, h2]; grind
theorem of11 : ((1 : Int) : Rat) / ((1 : Int) : Rat) = 1 := by
 have : ((1 : Int) : Rat) = 1 := rfl
 rw [this]; grind
end Go.K
namespace Go.K.S
open Go Go.K
theorem sides_good (t : TL) {k : Nat} (h : Tn k t) (hk : 0 < k) (hk2 : k < 68719476736) :
  Good P F.tri_sides [.d (.agg (dT Ψ t))] [] (.tup [.d (.agg (dV Ψ (Ψ .cV (vsub (vv t.b) (vv t.a))))), .d (.agg (dV Ψ (Ψ .cV (vsub (vv t.c) (vv t.a)))))]) [] := by
 refine G.tri_sides fun C C2 hC hC2 => ?_
 have g1 := vsub_good t.b t.a h.b h.a hk hk2
 have g2 := vsub_good t.c t.a h.c h.a hk hk2
 exact rn trivial
theorem of01_good : Good P F.rat_Of [.d (.i .i64 0), .d (.i .i64 1)] [] (.d (.agg (dR Ψ (Ψ .cr 0)))) [] := by
 have g := rof_good 0 1 (by omega) (by omega) (by omega) (by omega)
 rw [of01] at g
 exact g
theorem of11_good : Good P F.rat_Of [.d (.i .i64 1), .d (.i .i64 1)] [] (.d (.agg (dR Ψ (Ψ .cr 1)))) [] := by
 have g := rof_good 1 1 (by omega) (by omega) (by omega) (by omega)
 rw [of11] at g
 exact g
theorem hit_good (o d : VL) (t : TL) {k : Nat} (ho : Vn k o) (hd : Vn k d) (ht : Tn k t) (hk : 0 < k) (hk2 : k < 134217728) :
  Good P F.tri_Hit [.d (.agg (dV Ψ o)), .d (.agg (dV Ψ d)), .d (.agg (dT Ψ t))] [] (.tup [.d (.agg (dM Ψ (Ψ .cM (hitM (vv o) (vv d) (tv t))))), .d (.b (hitOk (vv o) (vv d) (tv t)))]) [] := by
 refine G.tri_Hit fun C C2 hC hC2 => ?_
 have po := Pn_vv ho hk
 have pd := Pn_vv hd hk
 have pa := Pn_vv ht.a hk
 have g0 := of01_good
 have g1 := of11_good
 have gs := sides_good t ht hk (by omega)
 have pb := Pn_sub (Pn_vv ht.b hk) pa
 have pc := Pn_sub (Pn_vv ht.c hk) pa
 have gp := vcross_good d _ (hd.mono (show k ≤ k + k + 1 by omega)) (Vn_cV pc) (by omega) (by omega)
 rw [vv_cV] at gp
 have pp := Pn_cross pd pc (by omega)
 have gdet := vdot_good _ _ ((Vn_cV pb).mono (show _ ≤ 6 * k + 3 by omega)) ((Vn_cV pp).mono (show _ ≤ 6 * k + 3 by omega)) (by omega) (by omega)
 rw [vv_cV, vv_cV] at gdet
 have qdet := (Qn_dot pb pp (by omega)).mono (show _ ≤ 24 * k + 14 by omega)
 have gk := rdiv_good (Ψ .cr 1) _ (Rn_cr.2 (Qn_one (k := 1) (by omega))) (Rn_cr.2 qdet) (by omega) (by omega) (by omega) (by omega)
 rw [rv_cr, rv_cr] at gk
 have qk := (Qn_div (Qn_one (k := 1) (by omega)) qdet (by omega)).mono (show _ ≤ 24 * k + 15 by omega)
 have gf := vsub_good o t.a ho ht.a hk (by omega)
 have pf := Pn_sub po pa
 have gfp := vdot_good _ _ ((Vn_cV pf).mono (show _ ≤ 6 * k + 3 by omega)) ((Vn_cV pp).mono (show _ ≤ 6 * k + 3 by omega)) (by omega) (by omega)
 rw [vv_cV, vv_cV] at gfp
 have qfp := (Qn_dot pf pp (by omega)).mono (show _ ≤ 24 * k + 14 by omega)
 have gu := prod2_good _ _ (Rn_cr.2 qk) ((Rn_cr.2 qfp).mono (show _ ≤ 24 * k + 15 by omega)) (by omega) (by omega)
 rw [rv_cr, rv_cr] at gu
 have qu := (Qn_mul qk qfp (by omega)).mono (show _ ≤ 60 * k + 60 by omega)
 have gsu := sign_good _ (Rn_cr.2 qu) (by omega)
 rw [rv_cr] at gsu
 have gq := vcross_good _ _ (Vn_cV pf) (Vn_cV pb) (by omega) (by omega)
 rw [vv_cV, vv_cV] at gq
 have pq := Pn_cross pf pb (by omega)
 have gdq := vdot_good d _ (hd.mono (show _ ≤ 8 * k + 5 by omega)) ((Vn_cV pq).mono (show _ ≤ 8 * k + 5 by omega)) (by omega) (by omega)
 rw [vv_cV] at gdq
 have qdq := (Qn_dot pd pq (by omega)).mono (show _ ≤ 30 * k + 20 by omega)
 have gv := prod2_good _ _ ((Rn_cr.2 qk).mono (show _ ≤ 30 * k + 20 by omega)) ((Rn_cr.2 qdq).mono (show _ ≤ 30 * k + 20 by omega)) (by omega) (by omega)
 rw [rv_cr, rv_cr] at gv
 have qv := (Qn_mul qk qdq (by omega)).mono (show _ ≤ 60 * k + 60 by omega)
 have gsv := sign_good _ (Rn_cr.2 qv) (by omega)
 rw [rv_cr] at gsv
 have gcq := vdot_good _ _ ((Vn_cV pc).mono (show _ ≤ 8 * k + 5 by omega)) ((Vn_cV pq).mono (show _ ≤ 8 * k + 5 by omega)) (by omega) (by omega)
 rw [vv_cV, vv_cV] at gcq
 have qcq := (Qn_dot pc pq (by omega)).mono (show _ ≤ 32 * k + 24 by omega)
 have gss := prod2_good _ _ ((Rn_cr.2 qk).mono (show _ ≤ 32 * k + 24 by omega)) ((Rn_cr.2 qcq).mono (show _ ≤ 32 * k + 24 by omega)) (by omega) (by omega)
 rw [rv_cr, rv_cr] at gss
 have qs := (Qn_mul qk qcq (by omega)).mono (show _ ≤ 60 * k + 60 by omega)
 have gsss := sign_good _ (Rn_cr.2 qs) (by omega)
 rw [rv_cr] at gsss
 have guv := sum2_good _ _ (Rn_cr.2 qu) (Rn_cr.2 qv) (by omega) (by omega)
 rw [rv_cr, rv_cr] at guv
 have quv := Qn_add qu qv
 have gcmp := rcmp_good _ (Ψ .cr 1) (Rn_cr.2 quv) (Rn_cr.2 (Qn_one (k := 1) (by omega))) (by omega) (by omega)
 rw [rv_cr, rv_cr] at gcmp
 clear po pd pa pb pc pp qdet qk pf qfp qu pq qdq qv qcq qs quv
 have hm : hitM (vv o) (vv d) (tv t) = (hitS (vv o) (vv d) (tv t)).getD m0 := rfl
 have hok : hitOk (vv o) (vv d) (tv t) = (hitS (vv o) (vv d) (tv t)).isSome := rfl
 rw [hm, hok]
 clear hm hok
 unfold hitS
 simp only [show (tv t).a = vv t.a from rfl, show (tv t).b = vv t.b from rfl, show (tv t).c = vv t.c from rfl]
 generalize vdot (vsub (vv t.b) (vv t.a)) (vcross (vv d) (vsub (vv t.c) (vv t.a))) = det at *
 generalize vdot (vsub (vv o) (vv t.a)) (vcross (vv d) (vsub (vv t.c) (vv t.a))) = fp at *
 generalize vdot (vv d) (vcross (vsub (vv o) (vv t.a)) (vsub (vv t.b) (vv t.a))) = dq at *
 generalize vdot (vsub (vv t.c) (vv t.a)) (vcross (vsub (vv o) (vv t.a)) (vsub (vv t.b) (vv t.a))) = cq at *
 generalize vsub (vv t.b) (vv t.a) = B at *
 generalize vsub (vv t.c) (vv t.a) = Cc at *
 generalize vsub (vv o) (vv t.a) = f at *
 generalize vcross (vv d) Cc = p at *
 generalize vcross f B = q at *
 have hz : Ψ .cM m0 = ⟨Ψ .cr 0, Ψ .cr 0, Ψ .cr 0⟩ := rfl
 by_cases h0 : det = 0
 ·rw [if_pos h0]
  rw [decide_eq_false (fun c => c h0)] at gk
  rw [Option.getD_none, hz]
  exact rn trivial
 rw [if_neg h0]
 rw [decide_eq_true h0] at gk
 generalize 1 / det = kk at *
 have zu := @sI_neg (kk * fp)
 generalize kk * fp = u at *
 generalize Ψ .sI u = su at *
 by_cases hu : u < 0
 ·rw [if_pos hu]
  have zu' := lt_true.2 (zu.2 hu)
  rw [Option.getD_none, hz]
  exact rn trivial
 rw [if_neg hu]
 have zu' := lt_false.2 (Int.not_lt.1 (mt zu.1 hu))
 have zv := @sI_neg (kk * dq)
 generalize kk * dq = v at *
 generalize Ψ .sI v = sv at *
 by_cases hv : v < 0
 ·rw [if_pos (.inl hv)]
  have zv' := lt_true.2 (zv.2 hv)
  rw [Option.getD_none, hz]
  exact rn trivial
 have zv' := lt_false.2 (Int.not_lt.1 (mt zv.1 hv))
 have zs := @sI_nonpos (kk * cq)
 generalize kk * cq = s at *
 generalize Ψ .sI s = ss at *
 by_cases hs : s ≤ 0
 ·rw [if_pos (.inr (.inl hs))]
  have zs' := le_true.2 (zs.2 hs)
  rw [Option.getD_none, hz]
  exact rn trivial
 have zs' := le_false.2 (Int.not_le.1 (mt zs.1 hs))
 have zc := @cI_pos (u + v) 1
 generalize Ψ .cI (u + v) 1 = ic at *
 by_cases hc : 1 < u + v
 ·rw [if_pos (.inr (.inr hc))]
  have zc' := lt_true.2 (zc.2 hc)
  rw [Option.getD_none, hz]
  exact rn trivial
 have zc' := lt_false.2 (Int.not_lt.1 (mt zc.1 hc))
 rw [if_neg (fun c => c.elim hv fun c => c.elim hs hc), Option.getD_some]
 have hmm : Ψ .cM ⟨s, u, v⟩ = ⟨Ψ .cr s, Ψ .cr u, Ψ .cr v⟩ := rfl
 rw [hmm]
 exact rn trivial
end Go.K.S
end
section
namespace Go.K
open Go
def hitR (o d : V3) (t : T3) : Option M3 :=
 if vdot (vcross (vsub t.b t.a) (vsub t.c t.a)) d = 0 then none
 else if vdot (vcross (vsub t.b t.a) (vsub t.c t.a)) (vsub t.a o) / vdot (vcross (vsub t.b t.a) (vsub t.c t.a)) d ≤ 0
  ∨ vdot (vcross (vsub (vadd o (vmul (vdot (vcross (vsub t.b t.a) (vsub t.c t.a)) (vsub t.a o) / vdot (vcross (vsub t.b t.a) (vsub t.c t.a)) d) d)) t.a) (vsub t.c t.a)) (vcross (vsub t.b t.a) (vsub t.c t.a)) / vdot (vcross (vsub t.b t.a) (vsub t.c t.a)) (vcross (vsub t.b t.a) (vsub t.c t.a)) < 0
  ∨ vdot (vcross (vsub t.b t.a) (vsub (vadd o (vmul (vdot (vcross (vsub t.b t.a) (vsub t.c t.a)) (vsub t.a o) / vdot (vcross (vsub t.b t.a) (vsub t.c t.a)) d) d)) t.a)) (vcross (vsub t.b t.a) (vsub t.c t.a)) / vdot (vcross (vsub t.b t.a) (vsub t.c t.a)) (vcross (vsub t.b t.a) (vsub t.c t.a)) < 0
  ∨ 1 < vdot (vcross (vsub (vadd o (vmul (vdot (vcross (vsub t.b t.a) (vsub t.c t.a)) (vsub t.a o) / vdot (vcross (vsub t.b t.a) (vsub t.c t.a)) d) d)) t.a) (vsub t.c t.a)) (vcross (vsub t.b t.a) (vsub t.c t.a)) / vdot (vcross (vsub t.b t.a) (vsub t.c t.a)) (vcross (vsub t.b t.a) (vsub t.c t.a))
   + vdot (vcross (vsub t.b t.a) (vsub (vadd o (vmul (vdot (vcross (vsub t.b t.a) (vsub t.c t.a)) (vsub t.a o) / vdot (vcross (vsub t.b t.a) (vsub t.c t.a)) d) d)) t.a)) (vcross (vsub t.b t.a) (vsub t.c t.a)) / vdot (vcross (vsub t.b t.a) (vsub t.c t.a)) (vcross (vsub t.b t.a) (vsub t.c t.a))
  then none
 else some ⟨vdot (vcross (vsub t.b t.a) (vsub t.c t.a)) (vsub t.a o) / vdot (vcross (vsub t.b t.a) (vsub t.c t.a)) d,
  vdot (vcross (vsub (vadd o (vmul (vdot (vcross (vsub t.b t.a) (vsub t.c t.a)) (vsub t.a o) / vdot (vcross (vsub t.b t.a) (vsub t.c t.a)) d) d)) t.a) (vsub t.c t.a)) (vcross (vsub t.b t.a) (vsub t.c t.a)) / vdot (vcross (vsub t.b t.a) (vsub t.c t.a)) (vcross (vsub t.b t.a) (vsub t.c t.a)),
  vdot (vcross (vsub t.b t.a) (vsub (vadd o (vmul (vdot (vcross (vsub t.b t.a) (vsub t.c t.a)) (vsub t.a o) / vdot (vcross (vsub t.b t.a) (vsub t.c t.a)) d) d)) t.a)) (vcross (vsub t.b t.a) (vsub t.c t.a)) / vdot (vcross (vsub t.b t.a) (vsub t.c t.a)) (vcross (vsub t.b t.a) (vsub t.c t.a))⟩
theorem det_down (b c d : V3) : vdot b (vcross d c) = - vdot (vcross b c) d := by unfold vdot vcross; grind
theorem sq_zero {x y z : Rat} (h : x * x + y * y + z * z = 0) : x = 0 ∧ y = 0 ∧ z = 0 := by
 have key : ∀ a : Rat, 0 ≤ a * a := fun a => by
  rcases (show a ≤ 0 ∨ 0 ≤ a by grind) with q | q
  ·have := Rat.mul_le_mul_of_nonneg_left (a := 0) (b := -a) (c := -a) (by grind) (by grind); grind
  ·have := Rat.mul_le_mul_of_nonneg_left (a := 0) (b := a) (c := a) (by grind) (by grind); grind
 have h1 := key x; have h2 := key y; have h3 := key z
 have e1 : x * x = 0 := by grind
 have e2 : y * y = 0 := by grind
 have e3 : z * z = 0 := by grind
 have f : ∀ a : Rat, a * a = 0 → a = 0 := fun a h => by grind
 exact ⟨f x e1, f y e2, f z e3⟩
theorem self_zero {n : V3} (h : vdot n n = 0) (d : V3) : vdot n d = 0 := by
 obtain ⟨h1, h2, h3⟩ := sq_zero h
 unfold vdot; rw [h1, h2, h3]; grind
theorem id_u (b c d f : V3) : vdot (vcross b c) (vcross b c) * vdot f (vcross d c) = vdot (vcross (vadd (vmul (vdot b (vcross d c)) f) (vmul (vdot (vcross b c) f) d)) c) (vcross b c) := by
 unfold vdot vcross vadd vmul; grind
theorem id_v (b c d f : V3) : vdot (vcross b c) (vcross b c) * vdot d (vcross f b) = vdot (vcross b (vadd (vmul (vdot b (vcross d c)) f) (vmul (vdot (vcross b c) f) d))) (vcross b c) := by
 unfold vdot vcross vadd vmul; grind
theorem id_s (b c f : V3) : vdot c (vcross f b) = vdot (vcross b c) f := by unfold vdot vcross; grind
theorem cross_mul (s : Rat) (p c : V3) : vcross (vmul s p) c = vmul s (vcross p c) := by unfold vcross vmul; simp only [V3.mk.injEq]; refine ⟨?_, ?_, ?_⟩ <;> grind
theorem cross_mul' (s : Rat) (p c : V3) : vcross c (vmul s p) = vmul s (vcross c p) := by unfold vcross vmul; simp only [V3.mk.injEq]; refine ⟨?_, ?_, ?_⟩ <;> grind
theorem dot_mul (s : Rat) (p c : V3) : vdot (vmul s p) c = s * vdot p c := by unfold vdot vmul; grind
theorem hit_law (o d : V3) (t : T3) : hitR o d t = hitS o d t := by
 unfold hitR hitS
 have hf : ∀ s : Rat, vsub (vadd o (vmul s d)) t.a = vadd (vsub o t.a) (vmul s d) := fun s => by unfold vsub vadd vmul; simp only [V3.mk.injEq]; refine ⟨?_, ?_, ?_⟩ <;> grind
 have hao : vdot (vcross (vsub t.b t.a) (vsub t.c t.a)) (vsub t.a o) = - vdot (vcross (vsub t.b t.a) (vsub t.c t.a)) (vsub o t.a) := by unfold vdot vsub; grind
 rw [hf, hao]
 generalize vsub t.b t.a = b
 generalize vsub t.c t.a = c
 generalize vsub o t.a = f
 have h1 := det_down b c d
 have hu := id_u b c d f
 have hv := id_v b c d f
 rw [id_s b c f]
 by_cases h0 : vdot (vcross b c) d = 0
 ·rw [if_pos h0, if_pos (by rw [h1, h0]; grind)]
 have h0' : vdot b (vcross d c) ≠ 0 := fun h => h0 (by rw [h1] at h; grind)
 have hnn : vdot (vcross b c) (vcross b c) ≠ 0 := fun h => h0 (self_zero h d)
 rw [if_neg h0, if_neg h0']
 have es : - vdot (vcross b c) f / vdot (vcross b c) d = 1 / vdot b (vcross d c) * vdot (vcross b c) f := by rw [h1]; grind
 rw [es]
 have ep : vadd (vmul (vdot b (vcross d c)) f) (vmul (vdot (vcross b c) f) d) = vmul (vdot b (vcross d c)) (vadd f (vmul (1 / vdot b (vcross d c) * vdot (vcross b c) f) d)) := by
  unfold vadd vmul; simp only [V3.mk.injEq]; refine ⟨?_, ?_, ?_⟩ <;> grind
 rw [ep] at hu hv
 rw [cross_mul, dot_mul] at hu
 rw [cross_mul', dot_mul] at hv
 generalize vadd f (vmul (1 / vdot b (vcross d c) * vdot (vcross b c) f) d) = p at *
 generalize vdot (vcross b c) f = nf at *
 generalize vdot f (vcross d c) = fp at *
 generalize vdot d (vcross f b) = dq at *
 generalize vdot b (vcross d c) = det at *
 generalize vdot (vcross p c) (vcross b c) = pu at *
 generalize vdot (vcross b p) (vcross b c) = pv at *
 generalize vdot (vcross b c) (vcross b c) = nn at *
 have eu : pu / nn = 1 / det * fp := by grind
 have ev : pv / nn = 1 / det * dq := by grind
 rw [eu, ev]
 generalize 1 / det * nf = s
 generalize 1 / det * fp = u
 generalize 1 / det * dq = v
 by_cases c1 : u < 0
 ·rw [if_pos (.inr (.inl c1)), if_pos c1]
 ·rw [if_neg c1]
  by_cases c2 : v < 0 ∨ s ≤ 0 ∨ 1 < u + v
  ·rw [if_pos c2, if_pos (c2.elim (fun h => .inr (.inr (.inl h))) fun h => h.elim (fun h => .inl h) fun h => .inr (.inr (.inr h)))]
  ·rw [if_neg c2, if_neg (fun h => h.elim (fun h => c2 (.inr (.inl h))) fun h => h.elim c1 fun h => h.elim (fun h => c2 (.inl h)) fun h => c2 (.inr (.inr h)))]
end Go.K
namespace Go.K.S
open Go Go.K
theorem sub5_good (a b : VL) {j k : Nat} (ha : Vn j a) (hb : Vn k b) (hk : 0 < k) (hj2 : j < 68719476736) (hk2 : k < 68719476736) :
  Good P F.penumbraref05_Sub [.d (.agg (dV Ψ a)), .d (.agg (dV Ψ b))] [] (.d (.agg (dV Ψ (Ψ .cV (vsub (vv a) (vv b)))))) [] := by
 refine G.penumbraref05_Sub fun C C2 hC hC2 => ?_
 have g1 := sub3_good a.x b.x ha.x hb.x hk hj2 hk2
 have g2 := sub3_good a.y b.y ha.y hb.y hk hj2 hk2
 have g3 := sub3_good a.z b.z ha.z hb.z hk hj2 hk2
 have e : Ψ .cV (vsub (vv a) (vv b)) = ⟨Ψ .cr (rv a.x - rv b.x), Ψ .cr (rv a.y - rv b.y), Ψ .cr (rv a.z - rv b.z)⟩ := rfl
 rw [e]
 exact rn trivial
theorem dot5_good (a b : VL) {j k : Nat} (ha : Vn j a) (hb : Vn k b) (hj : 0 < j) (hk : 0 < k) (hj2 : j < 8589934590) (hk2 : k < 8589934590) :
  Good P F.penumbraref05_Dot [.d (.agg (dV Ψ a)), .d (.agg (dV Ψ b))] [] (.d (.agg (dR Ψ (Ψ .cr (vdot (vv a) (vv b)))))) [] := by
 refine G.penumbraref05_Dot fun C C2 hC hC2 => ?_
 have g1 := mul3_good a.x b.x ha.x hb.x (by omega) (by omega)
 have g2 := mul3_good a.y b.y ha.y hb.y (by omega) (by omega)
 have g3 := mul3_good a.z b.z ha.z hb.z (by omega) (by omega)
 have q1 := Qn_mul (Qn_rv ha.x hj) (Qn_rv hb.x hk) (by omega)
 have q2 := Qn_mul (Qn_rv ha.y hj) (Qn_rv hb.y hk) (by omega)
 have q3 := Qn_mul (Qn_rv ha.z hj) (Qn_rv hb.z hk) (by omega)
 have g4 := add3_good _ _ (Rn_cr.2 q1) (Rn_cr.2 q2) (by omega) (by omega)
 have g5 := add3_good _ _ (Rn_cr.2 (Qn_add q1 q2)) (Rn_cr.2 q3) (by omega) (by omega)
 rw [rv_cr, rv_cr] at g4 g5
 have hV : vdot (vv a) (vv b) = rv a.x * rv b.x + rv a.y * rv b.y + rv a.z * rv b.z := rfl
 rw [hV]
 exact rn trivial
theorem cross5_good (a b : VL) {j k : Nat} (ha : Vn j a) (hb : Vn k b) (hj : 0 < j) (hk : 0 < k) (hj2 : j < 8589934590) (hk2 : k < 8589934590) :
  Good P F.penumbraref05_Cross [.d (.agg (dV Ψ a)), .d (.agg (dV Ψ b))] [] (.d (.agg (dV Ψ (Ψ .cV (vcross (vv a) (vv b)))))) [] := by
 refine G.penumbraref05_Cross fun C C2 hC hC2 => ?_
 have q := fun (x y : RL) (hx : Rn j x) (hy : Rn k y) => Rn_cr.2 (Qn_mul (Qn_rv hx hj) (Qn_rv hy hk) (by omega))
 have g1 := mul3_good a.y b.z ha.y hb.z (by omega) (by omega)
 have g2 := mul3_good a.z b.y ha.z hb.y (by omega) (by omega)
 have g3 := mul3_good a.z b.x ha.z hb.x (by omega) (by omega)
 have g4 := mul3_good a.x b.z ha.x hb.z (by omega) (by omega)
 have g5 := mul3_good a.x b.y ha.x hb.y (by omega) (by omega)
 have g6 := mul3_good a.y b.x ha.y hb.x (by omega) (by omega)
 have s1 := sub3_good _ _ (q _ _ ha.y hb.z) (q _ _ ha.z hb.y) (by omega) (by omega) (by omega)
 have s2 := sub3_good _ _ (q _ _ ha.z hb.x) (q _ _ ha.x hb.z) (by omega) (by omega) (by omega)
 have s3 := sub3_good _ _ (q _ _ ha.x hb.y) (q _ _ ha.y hb.x) (by omega) (by omega) (by omega)
 rw [rv_cr, rv_cr] at s1 s2 s3
 have e : Ψ .cV (vcross (vv a) (vv b)) = ⟨Ψ .cr (rv a.y * rv b.z - rv a.z * rv b.y), Ψ .cr (rv a.z * rv b.x - rv a.x * rv b.z), Ψ .cr (rv a.x * rv b.y - rv a.y * rv b.x)⟩ := rfl
 rw [e]
 clear q
 exact rn trivial
theorem none8_good : Good P F.penumbraref08_None [] [] (.d (.agg (dM Ψ (Ψ .cM m0)))) [] := by
 refine G.penumbraref08_None fun C C2 hC hC2 => ?_
 have g := zero3_good
 have e : Ψ .cM m0 = ⟨Ψ .cr 0, Ψ .cr 0, Ψ .cr 0⟩ := rfl
 rw [e]
 exact rn trivial
theorem normal8_good (t : TL) {k : Nat} (h : Tn k t) (hk : 0 < k) (hk2 : k < 1073741824) :
  Good P F.penumbraref08_Normal [.d (.agg (dT Ψ t))] [] (.d (.agg (dV Ψ (Ψ .cV (vcross (vsub (vv t.b) (vv t.a)) (vsub (vv t.c) (vv t.a))))))) [] := by
 refine G.penumbraref08_Normal fun C C2 hC hC2 => ?_
 have g1 := sub5_good t.b t.a h.b h.a hk (by omega) (by omega)
 have g2 := sub5_good t.c t.a h.c h.a hk (by omega) (by omega)
 have pb := Pn_sub (Pn_vv h.b hk) (Pn_vv h.a hk)
 have pc := Pn_sub (Pn_vv h.c hk) (Pn_vv h.a hk)
 have g3 := cross5_good _ _ (Vn_cV pb) (Vn_cV pc) (by omega) (by omega) (by omega) (by omega)
 rw [vv_cV, vv_cV] at g3
 exact rn trivial
theorem hit8_good (o d : VL) (t : TL) {k : Nat} (ho : Vn k o) (hd : Vn k d) (ht : Tn k t) (hk : 0 < k) (hk2 : k < 67108864) :
  Good P F.penumbraref08_Hit [.d (.agg (dV Ψ o)), .d (.agg (dV Ψ d)), .d (.agg (dT Ψ t))] [] (.tup [.d (.agg (dM Ψ (Ψ .cM (hitM (vv o) (vv d) (tv t))))), .d (.b (hitOk (vv o) (vv d) (tv t)))]) [] := by
 refine G.penumbraref08_Hit fun C C2 hC hC2 => ?_
 have po := Pn_vv ho hk
 have pd := Pn_vv hd hk
 have pa := Pn_vv ht.a hk
 have g0 := none8_good
 have g1 := one3_good
 have gb := sub5_good t.b t.a ht.b ht.a hk (by omega) (by omega)
 have gc := sub5_good t.c t.a ht.c ht.a hk (by omega) (by omega)
 have gao := sub5_good t.a o ht.a ho hk (by omega) (by omega)
 have gn := normal8_good t ht hk (by omega)
 have pb := Pn_sub (Pn_vv ht.b hk) pa
 have pc := Pn_sub (Pn_vv ht.c hk) pa
 have pao := Pn_sub pa po
 have pn := (Pn_cross pb pc (by omega)).mono (show _ ≤ 8 * k + 5 by omega)
 have gdn := dot5_good _ d (Vn_cV pn) hd (by omega) hk (by omega) (by omega)
 rw [vv_cV] at gdn
 have qdn := (Qn_dot pn pd (by omega)).mono (show _ ≤ 27 * k + 17 by omega)
 have gsd := sign3_good _ (Rn_cr.2 qdn) (by omega)
 rw [rv_cr] at gsd
 have gna := dot5_good _ _ (Vn_cV pn) (Vn_cV pao) (by omega) (by omega) (by omega) (by omega)
 rw [vv_cV, vv_cV] at gna
 have qna := (Qn_dot pn pao (by omega)).mono (show _ ≤ 30 * k + 20 by omega)
 have gs := over3_good _ _ (Rn_cr.2 qna) (Rn_cr.2 qdn) (by omega) (by omega)
 rw [rv_cr, rv_cr] at gs
 have qs := (Qn_div qna qdn (by omega)).mono (show _ ≤ 57 * k + 37 by omega)
 have gat := at8_good o d _ (ho.mono (show _ ≤ 57 * k + 37 by omega)) (hd.mono (show _ ≤ 57 * k + 37 by omega)) (Rn_cr.2 qs) (by omega) (by omega)
 rw [rv_cr] at gat
 have pat := (Pn_add po (Pn_mul qs pd (by omega))).mono (show _ ≤ 59 * k + 38 by omega)
 have gp := sub5_good _ t.a (Vn_cV pat) ht.a hk (by omega) (by omega)
 rw [vv_cV] at gp
 have pp := (Pn_sub pat pa).mono (show _ ≤ 60 * k + 39 by omega)
 have gw := dot5_good _ _ (Vn_cV pn) (Vn_cV pn) (by omega) (by omega) (by omega) (by omega)
 rw [vv_cV] at gw
 have qw := (Qn_dot pn pn (by omega)).mono (show _ ≤ 48 * k + 32 by omega)
 have gpc := cross5_good _ _ (Vn_cV pp) (Vn_cV pc) (by omega) (by omega) (by omega) (by omega)
 rw [vv_cV, vv_cV] at gpc
 have ppc := (Pn_cross pp pc (by omega)).mono (show _ ≤ 124 * k + 81 by omega)
 have gpcn := dot5_good _ _ (Vn_cV ppc) (Vn_cV pn) (by omega) (by omega) (by omega) (by omega)
 rw [vv_cV, vv_cV] at gpcn
 have qpcn := (Qn_dot ppc pn (by omega)).mono (show _ ≤ 396 * k + 260 by omega)
 have gu := over3_good _ _ (Rn_cr.2 qpcn) (Rn_cr.2 qw) (by omega) (by omega)
 rw [rv_cr, rv_cr] at gu
 have qu := (Qn_div qpcn qw (by omega)).mono (show _ ≤ 444 * k + 292 by omega)
 have gbp := cross5_good _ _ (Vn_cV pb) (Vn_cV pp) (by omega) (by omega) (by omega) (by omega)
 rw [vv_cV, vv_cV] at gbp
 have pbp := (Pn_cross pb pp (by omega)).mono (show _ ≤ 124 * k + 81 by omega)
 have gbpn := dot5_good _ _ (Vn_cV pbp) (Vn_cV pn) (by omega) (by omega) (by omega) (by omega)
 rw [vv_cV, vv_cV] at gbpn
 have qbpn := (Qn_dot pbp pn (by omega)).mono (show _ ≤ 396 * k + 260 by omega)
 have gv := over3_good _ _ (Rn_cr.2 qbpn) (Rn_cr.2 qw) (by omega) (by omega)
 rw [rv_cr, rv_cr] at gv
 have qv := (Qn_div qbpn qw (by omega)).mono (show _ ≤ 444 * k + 292 by omega)
 have gss := sign3_good _ (Rn_cr.2 qs) (by omega)
 have gsu := sign3_good _ (Rn_cr.2 qu) (by omega)
 have gsv := sign3_good _ (Rn_cr.2 qv) (by omega)
 rw [rv_cr] at gss gsu gsv
 have gadd := add3_good _ _ (Rn_cr.2 qu) (Rn_cr.2 qv) (by omega) (by omega)
 rw [rv_cr, rv_cr] at gadd
 have gcmp := cmp3_good _ (Ψ .cr 1) (Rn_cr.2 (Qn_add qu qv)) (Rn_cr.2 (Qn_one (k := 1) (by omega))) (by omega) (by omega) (by omega) (by omega)
 rw [rv_cr, rv_cr] at gcmp
 clear po pd pa pb pc pao pn qdn qna qs pat pp qw ppc qpcn qu pbp qbpn qv
 have hm : hitM (vv o) (vv d) (tv t) = (hitR (vv o) (vv d) (tv t)).getD m0 := by rw [hit_law]; rfl
 have hok : hitOk (vv o) (vv d) (tv t) = (hitR (vv o) (vv d) (tv t)).isSome := by rw [hit_law]; rfl
 rw [hm, hok]
 clear hm hok
 unfold hitR
 simp only [show (tv t).a = vv t.a from rfl, show (tv t).b = vv t.b from rfl, show (tv t).c = vv t.c from rfl]
 generalize vsub (vv t.b) (vv t.a) = B at *
 generalize vsub (vv t.c) (vv t.a) = Cc at *
 generalize vsub (vv t.a) (vv o) = ao at *
 generalize vcross B Cc = n at *
 generalize vdot n (vv d) = down at *
 generalize vdot n ao = na at *
 generalize vdot n n = nn at *
 generalize na / down = s at *
 generalize vadd (vv o) (vmul s (vv d)) = at' at *
 generalize vsub at' (vv t.a) = p at *
 generalize vcross p Cc = pc at *
 generalize vcross B p = bp at *
 generalize vdot pc n = pcn at *
 generalize vdot bp n = bpn at *
 generalize pcn / nn = u at *
 generalize bpn / nn = v at *
 have zd := @sI_zero down
 generalize Ψ .sI down = sd at *
 by_cases h0 : down = 0
 ·rw [if_pos h0]
  have zd' := eq_true'.2 (zd.2 h0)
  rw [Option.getD_none]
  exact rn trivial
 rw [if_neg h0]
 have zd' := eq_false'.2 (mt zd.1 h0)
 have zs := @sI_nonpos s
 generalize Ψ .sI s = ss at *
 by_cases hs : s ≤ 0
 ·rw [if_pos (.inl hs)]
  have zs' := le_true.2 (zs.2 hs)
  rw [Option.getD_none]
  exact rn trivial
 have zs' := le_false.2 (Int.not_le.1 (mt zs.1 hs))
 have zu := @sI_neg u
 generalize Ψ .sI u = su at *
 by_cases hu : u < 0
 ·rw [if_pos (.inr (.inl hu))]
  have zu' := lt_true.2 (zu.2 hu)
  rw [Option.getD_none]
  exact rn trivial
 have zu' := lt_false.2 (Int.not_lt.1 (mt zu.1 hu))
 have zv := @sI_neg v
 generalize Ψ .sI v = sv at *
 by_cases hv : v < 0
 ·rw [if_pos (.inr (.inr (.inl hv)))]
  have zv' := lt_true.2 (zv.2 hv)
  rw [Option.getD_none]
  exact rn trivial
 have zv' := lt_false.2 (Int.not_lt.1 (mt zv.1 hv))
 have zc := @cI_pos (u + v) 1
 generalize Ψ .cI (u + v) 1 = ic at *
 by_cases hc : 1 < u + v
 ·rw [if_pos (.inr (.inr (.inr hc)))]
  have zc' := lt_true.2 (zc.2 hc)
  rw [Option.getD_none]
  exact rn trivial
 have zc' := lt_false.2 (Int.not_lt.1 (mt zc.1 hc))
 rw [if_neg (fun c => c.elim hs fun c => c.elim hu fun c => c.elim hv hc), Option.getD_some]
 have hmm : Ψ .cM ⟨s, u, v⟩ = ⟨Ψ .cr s, Ψ .cr u, Ψ .cr v⟩ := rfl
 rw [hmm]
 exact rn trivial
end Go.K.S
end
section
namespace Go.K
open Go
def CD (D N : Nat) (q : Rat) : Prop := ∃ x : Int, q * (D : Rat) = (x : Rat) ∧ x.natAbs ≤ N
structure CV (D N : Nat) (v : V3) : Prop where
 x : CD D N v.x
 y : CD D N v.y
 z : CD D N v.z
theorem CD.mono {D N M : Nat} {q : Rat} (h : CD D N q) (hn : N ≤ M) : CD D M q := by
 obtain ⟨x, h1, h2⟩ := h; exact ⟨x, h1, Nat.le_trans h2 hn⟩
theorem CV.mono {D N M : Nat} {v : V3} (h : CV D N v) (hn : N ≤ M) : CV D M v := ⟨h.x.mono hn, h.y.mono hn, h.z.mono hn⟩
theorem CD.add {D N M : Nat} {p q : Rat} (hp : CD D N p) (hq : CD D M q) : CD D (N + M) (p + q) := by
 obtain ⟨x, h1, h2⟩ := hp
 obtain ⟨y, h3, h4⟩ := hq
 refine ⟨x + y, ?_, Nat.le_trans (Int.natAbs_add_le x y) (by omega)⟩
 rw [Rat.add_mul, h1, h3, Rat.intCast_add]
theorem CD.neg {D N : Nat} {p : Rat} (hp : CD D N p) : CD D N (-p) := by
 obtain ⟨x, h1, h2⟩ := hp
 refine ⟨-x, ?_, by rw [Int.natAbs_neg]; exact h2⟩
 rw [Rat.neg_mul, h1, Rat.intCast_neg]
theorem CD.sub {D N M : Nat} {p q : Rat} (hp : CD D N p) (hq : CD D M q) : CD D (N + M) (p - q) := by
 rw [Rat.sub_eq_add_neg]; exact hp.add hq.neg
theorem CD.mul {D N E M : Nat} {p q : Rat} (hp : CD D N p) (hq : CD E M q) : CD (D * E) (N * M) (p * q) := by
 obtain ⟨x, h1, h2⟩ := hp
 obtain ⟨y, h3, h4⟩ := hq
 refine ⟨x * y, ?_, by rw [Int.natAbs_mul]; exact Nat.mul_le_mul h2 h4⟩
 rw [Rat.natCast_mul, Rat.intCast_mul, ← h1, ← h3]
 grind
theorem CD.up {D N : Nat} {p : Rat} (E : Nat) (hp : CD D N p) : CD (D * E) (N * E) p := by
 obtain ⟨x, h1, h2⟩ := hp
 refine ⟨x * E, ?_, by rw [Int.natAbs_mul, Int.natAbs_natCast]; exact Nat.mul_le_mul_right _ h2⟩
 rw [Rat.natCast_mul, Rat.intCast_mul, ← h1]
 have : ((E : Int) : Rat) = (E : Rat) := rfl
 rw [this]
 grind
theorem CD.up' {D N : Nat} {p : Rat} (E : Nat) (hp : CD D N p) : CD (E * D) (E * N) p := by
 rw [Nat.mul_comm E D, Nat.mul_comm E N]; exact hp.up E
theorem CD.of {k : Nat} {q : Rat} (h : Qn k q) : ∃ D : Nat, 0 < D ∧ D ≤ 4294967296 ^ k ∧ CD D (4294967296 ^ k) q :=
 ⟨q.den, q.den_pos, Nat.le_of_lt h.d, q.num, (by
  have e : (q.num : Rat) / (q.den : Rat) = q := by rw [← Rat.mkRat_eq_div, Rat.mkRat_self]
  have hd : (q.den : Rat) ≠ 0 := by
   intro e
   have e' : ((q.den : Int) : Rat) = ((0 : Int) : Rat) := e
   have := Rat.intCast_inj.1 e'
   have := q.den_pos
   omega
  have h2 : q * (q.den : Rat) = (q.num : Rat) / (q.den : Rat) * (q.den : Rat) := by rw [e]
  rw [h2]; grind), Nat.le_of_lt h.n⟩
theorem CD.size {D N k : Nat} {q : Rat} (h : CD D N q) (hD : 0 < D) (h1 : D < 4294967296 ^ k) (h2 : N < 4294967296 ^ k) (hk : 0 < k) : Qn k q := by
 obtain ⟨x, h3, h4⟩ := h
 have hD' : (D : Rat) ≠ 0 := by
  intro e
  have : ((D : Int) : Rat) = ((0 : Int) : Rat) := e
  have := Rat.intCast_inj.1 this
  omega
 have e : q = mkRat x D := by
  rw [Rat.mkRat_eq_div, ← h3]
  have : ((D : Int) : Rat) = (D : Rat) := rfl
  grind
 rw [e]
 exact Qn_mk (by omega) h1 hk
theorem CD.inv {D N : Nat} {q : Rat} (h : CD D N q) (hq : q ≠ 0) (hD : 0 < D) : ∃ E : Nat, 0 < E ∧ E ≤ N ∧ CD E D (1 / q) := by
 obtain ⟨x, h1, h2⟩ := h
 have hD' : (D : Rat) ≠ 0 := by
  intro e
  have : ((D : Int) : Rat) = ((0 : Int) : Rat) := e
  have := Rat.intCast_inj.1 this
  omega
 have hx : x ≠ 0 := fun e => by
  subst e
  have h1' : q * (D : Rat) = 0 := h1
  rcases Rat.mul_eq_zero.1 h1' with h | h
  ·exact hq h
  ·exact hD' h
 refine ⟨x.natAbs, by omega, h2, ?_⟩
 have key : 1 / q * (x : Rat) = (D : Rat) := by rw [← h1]; grind
 rcases Int.natAbs_eq x with e | e
 ·refine ⟨(D : Int), ?_, by simp⟩
  have e' : ((x.natAbs : Nat) : Rat) = (x : Rat) := by
   have : (((x.natAbs : Nat) : Int) : Rat) = (x : Rat) := by rw [← e]
   exact this
  rw [e', key]; rfl
 ·refine ⟨-(D : Int), ?_, by simp⟩
  have e' : ((x.natAbs : Nat) : Rat) = -(x : Rat) := by
   have h5 : ((x.natAbs : Nat) : Int) = -x := by omega
   have : (((x.natAbs : Nat) : Int) : Rat) = ((-x : Int) : Rat) := by rw [h5]
   rw [Rat.intCast_neg] at this
   exact this
  rw [e', Rat.mul_neg, key, Rat.intCast_neg]; rfl
theorem CV.add {D N M : Nat} {u v : V3} (hu : CV D N u) (hv : CV D M v) : CV D (N + M) (vadd u v) := ⟨hu.x.add hv.x, hu.y.add hv.y, hu.z.add hv.z⟩
theorem CV.sub {D N M : Nat} {u v : V3} (hu : CV D N u) (hv : CV D M v) : CV D (N + M) (vsub u v) := ⟨hu.x.sub hv.x, hu.y.sub hv.y, hu.z.sub hv.z⟩
theorem CV.up {D N : Nat} {v : V3} (E : Nat) (h : CV D N v) : CV (D * E) (N * E) v := ⟨h.x.up E, h.y.up E, h.z.up E⟩
theorem CV.up' {D N : Nat} {v : V3} (E : Nat) (h : CV D N v) : CV (E * D) (E * N) v := ⟨h.x.up' E, h.y.up' E, h.z.up' E⟩
theorem CV.smul {D N E M : Nat} {s : Rat} {v : V3} (hs : CD D N s) (hv : CV E M v) : CV (D * E) (N * M) (vmul s v) := ⟨hs.mul hv.x, hs.mul hv.y, hs.mul hv.z⟩
theorem CV.dot {D N E M : Nat} {u v : V3} (hu : CV D N u) (hv : CV E M v) : CD (D * E) (3 * (N * M)) (vdot u v) :=
 (((hu.x.mul hv.x).add (hu.y.mul hv.y)).add (hu.z.mul hv.z)).mono (by omega)
theorem CV.cross {D N E M : Nat} {u v : V3} (hu : CV D N u) (hv : CV E M v) : CV (D * E) (2 * (N * M)) (vcross u v) :=
 ⟨((hu.y.mul hv.z).sub (hu.z.mul hv.y)).mono (by omega), ((hu.z.mul hv.x).sub (hu.x.mul hv.z)).mono (by omega), ((hu.x.mul hv.y).sub (hu.y.mul hv.x)).mono (by omega)⟩
theorem CV.of {k : Nat} {v : V3} (h : Pn k v) : ∃ D : Nat, 0 < D ∧ D ≤ 4294967296 ^ (3 * k) ∧ CV D (4294967296 ^ (3 * k)) v := by
 obtain ⟨d1, p1, q1, c1⟩ := CD.of h.x
 obtain ⟨d2, p2, q2, c2⟩ := CD.of h.y
 obtain ⟨d3, p3, q3, c3⟩ := CD.of h.z
 have e : 4294967296 ^ (3 * k) = 4294967296 ^ k * 4294967296 ^ k * 4294967296 ^ k := by rw [← Nat.pow_add, ← Nat.pow_add]; congr 1; omega
 refine ⟨d1 * d2 * d3, Nat.mul_pos (Nat.mul_pos p1 p2) p3, ?_, ?_⟩
 ·rw [e]; exact Nat.mul_le_mul (Nat.mul_le_mul q1 q2) q3
 ·rw [e]
  refine ⟨((c1.up d2).up d3).mono (Nat.mul_le_mul (Nat.mul_le_mul_left _ q2) q3), ?_, ?_⟩
  ·have := (c2.up' d1).up d3
   exact this.mono (Nat.mul_le_mul (Nat.mul_le_mul_right _ q1) q3)
  ·have := c3.up' (d1 * d2)
   exact this.mono (Nat.mul_le_mul_right _ (Nat.mul_le_mul q1 q2))
end Go.K
end
section
namespace Go.K
open Go
structure M4 where
 x : V3
 y : V3
 z : V3
 move : V3
structure MapL where
 x : VL
 y : VL
 z : VL
 move : VL
def dMap (Ψ : (t : Sd) → STy t) (m : MapL) : List D := dV Ψ m.x ++ dV Ψ m.y ++ dV Ψ m.z ++ dV Ψ m.move
def mv (m : MapL) : M4 := ⟨vv m.x, vv m.y, vv m.z, vv m.move⟩
def cMap (Ψ : (t : Sd) → STy t) (m : M4) : MapL := ⟨Ψ .cV m.x, Ψ .cV m.y, Ψ .cV m.z, Ψ .cV m.move⟩
theorem mv_cMap (m : M4) : mv (cMap Ψ m) = m := by simp [mv, cMap, vv_cV]
theorem M4.ext_iff' {a b : M4} : a = b ↔ a.x = b.x ∧ a.y = b.y ∧ a.z = b.z ∧ a.move = b.move := by
 cases a; cases b; simp
theorem V3.mk_eq {a b c a' b' c' : Rat} (h1 : a = a') (h2 : b = b') (h3 : c = c') : (⟨a, b, c⟩ : V3) = ⟨a', b', c'⟩ := by rw [h1, h2, h3]
def idM : M4 := ⟨⟨1, 0, 0⟩, ⟨0, 1, 0⟩, ⟨0, 0, 1⟩, ⟨0, 0, 0⟩⟩
def turnS (m : M4) (d : V3) : V3 := ⟨vdot m.x d, vdot m.y d, vdot m.z d⟩
def applyS (m : M4) (p : V3) : V3 := vadd (turnS m p) m.move
def rowS (a : M4) (r : V3) : V3 := ⟨vdot r ⟨a.x.x, a.y.x, a.z.x⟩, vdot r ⟨a.x.y, a.y.y, a.z.y⟩, vdot r ⟨a.x.z, a.y.z, a.z.z⟩⟩
def thenS (a b : M4) : M4 := ⟨rowS a b.x, rowS a b.y, rowS a b.z, applyS b a.move⟩
def detS (m : M4) : Rat := vdot m.x (vcross m.y m.z)
def stretchS (p n : V3) (k : Rat) : M4 :=
 ⟨vadd ⟨1, 0, 0⟩ (vmul ((k - 1) * n.x) n), vadd ⟨0, 1, 0⟩ (vmul ((k - 1) * n.y) n), vadd ⟨0, 0, 1⟩ (vmul ((k - 1) * n.z) n), vmul (-((k - 1) * vdot p n)) n⟩
def toldS (o x y z : V3) : M4 := ⟨⟨x.x - o.x, y.x - o.x, z.x - o.x⟩, ⟨x.y - o.y, y.y - o.y, z.y - o.y⟩, ⟨x.z - o.z, y.z - o.z, z.z - o.z⟩, o⟩
def e1 : V3 := ⟨1, 0, 0⟩
def e2 : V3 := ⟨0, 1, 0⟩
def e3 : V3 := ⟨0, 0, 1⟩
theorem then_told (a b : M4) : thenS a b = toldS (applyS b (applyS a v0)) (applyS b (applyS a e1)) (applyS b (applyS a e2)) (applyS b (applyS a e3)) := by
 obtain ⟨⟨a1, a2, a3⟩, ⟨a4, a5, a6⟩, ⟨a7, a8, a9⟩, ⟨a10, a11, a12⟩⟩ := a
 obtain ⟨⟨b1, b2, b3⟩, ⟨b4, b5, b6⟩, ⟨b7, b8, b9⟩, ⟨b10, b11, b12⟩⟩ := b
 unfold thenS toldS applyS turnS rowS vdot vadd v0 e1 e2 e3
 simp only
 rw [M4.ext_iff']
 refine ⟨V3.mk_eq ?_ ?_ ?_, V3.mk_eq ?_ ?_ ?_, V3.mk_eq ?_ ?_ ?_, V3.mk_eq ?_ ?_ ?_⟩ <;> grind
def stretchedS (p n : V3) (k : Rat) (x : V3) : V3 := vadd x (vmul ((k - 1) * vdot (vsub x p) n) n)
theorem stretch_told (p n : V3) (k : Rat) : stretchS p n k = toldS (stretchedS p n k v0) (stretchedS p n k e1) (stretchedS p n k e2) (stretchedS p n k e3) := by
 obtain ⟨p1, p2, p3⟩ := p
 obtain ⟨n1, n2, n3⟩ := n
 unfold stretchS toldS stretchedS vdot vadd vsub vmul v0 e1 e2 e3
 simp only
 rw [M4.ext_iff']
 refine ⟨V3.mk_eq ?_ ?_ ?_, V3.mk_eq ?_ ?_ ?_, V3.mk_eq ?_ ?_ ?_, V3.mk_eq ?_ ?_ ?_⟩ <;> grind
theorem apply_stretch (p n : V3) (k : Rat) (x : V3) : applyS (stretchS p n k) x = stretchedS p n k x := by
 obtain ⟨p1, p2, p3⟩ := p
 obtain ⟨n1, n2, n3⟩ := n
 obtain ⟨x1, x2, x3⟩ := x
 unfold applyS turnS stretchS stretchedS vdot vadd vsub vmul
 simp only
 refine V3.mk_eq ?_ ?_ ?_ <;> grind
theorem apply_then (a b : M4) (p : V3) : applyS (thenS a b) p = applyS b (applyS a p) := by
 obtain ⟨⟨a1, a2, a3⟩, ⟨a4, a5, a6⟩, ⟨a7, a8, a9⟩, ⟨a10, a11, a12⟩⟩ := a
 obtain ⟨⟨b1, b2, b3⟩, ⟨b4, b5, b6⟩, ⟨b7, b8, b9⟩, ⟨b10, b11, b12⟩⟩ := b
 obtain ⟨p1, p2, p3⟩ := p
 unfold thenS applyS turnS rowS vdot vadd
 simp only
 refine V3.mk_eq ?_ ?_ ?_ <;> grind
theorem turn_then (a b : M4) (p : V3) : turnS (thenS a b) p = turnS b (turnS a p) := by
 obtain ⟨⟨a1, a2, a3⟩, ⟨a4, a5, a6⟩, ⟨a7, a8, a9⟩, ⟨a10, a11, a12⟩⟩ := a
 obtain ⟨⟨b1, b2, b3⟩, ⟨b4, b5, b6⟩, ⟨b7, b8, b9⟩, ⟨b10, b11, b12⟩⟩ := b
 obtain ⟨p1, p2, p3⟩ := p
 unfold thenS turnS rowS vdot
 simp only
 refine V3.mk_eq ?_ ?_ ?_ <;> grind
end Go.K
namespace Go.K
def inverseS (m : M4) : M4 :=
 let k := 1 / detS m
 let a := vmul k (vcross m.y m.z)
 let b := vmul k (vcross m.z m.x)
 let c := vmul k (vcross m.x m.y)
 let out : M4 := ⟨⟨a.x, b.x, c.x⟩, ⟨a.y, b.y, c.y⟩, ⟨a.z, b.z, c.z⟩, ⟨0, 0, 0⟩⟩
 ⟨out.x, out.y, out.z, vmul (-1) (turnS out m.move)⟩
theorem then_inv (m : M4) (h : detS m ≠ 0) : thenS (inverseS m) m = idM := by
 have hk : 1 / detS m * detS m = 1 := by grind
 unfold inverseS
 generalize 1 / detS m = k at *
 obtain ⟨⟨a1, a2, a3⟩, ⟨a4, a5, a6⟩, ⟨a7, a8, a9⟩, ⟨a10, a11, a12⟩⟩ := m
 unfold detS vdot vcross at hk
 unfold thenS applyS turnS rowS idM vdot vcross vmul vadd
 simp only at *
 rw [M4.ext_iff']
 refine ⟨V3.mk_eq ?_ ?_ ?_, V3.mk_eq ?_ ?_ ?_, V3.mk_eq ?_ ?_ ?_, V3.mk_eq ?_ ?_ ?_⟩ <;> grind
theorem then_assoc (a b c : M4) : thenS (thenS a b) c = thenS a (thenS b c) := by
 obtain ⟨⟨a1, a2, a3⟩, ⟨a4, a5, a6⟩, ⟨a7, a8, a9⟩, ⟨a10, a11, a12⟩⟩ := a
 obtain ⟨⟨b1, b2, b3⟩, ⟨b4, b5, b6⟩, ⟨b7, b8, b9⟩, ⟨b10, b11, b12⟩⟩ := b
 obtain ⟨⟨c1, c2, c3⟩, ⟨c4, c5, c6⟩, ⟨c7, c8, c9⟩, ⟨c10, c11, c12⟩⟩ := c
 unfold thenS applyS turnS rowS vdot vadd
 simp only
 rw [M4.ext_iff']
 refine ⟨V3.mk_eq ?_ ?_ ?_, V3.mk_eq ?_ ?_ ?_, V3.mk_eq ?_ ?_ ?_, V3.mk_eq ?_ ?_ ?_⟩ <;> grind
theorem id_then (a : M4) : thenS idM a = a := by
 obtain ⟨⟨a1, a2, a3⟩, ⟨a4, a5, a6⟩, ⟨a7, a8, a9⟩, ⟨a10, a11, a12⟩⟩ := a
 unfold thenS applyS turnS rowS idM vdot vadd
 simp only
 rw [M4.ext_iff']
 refine ⟨V3.mk_eq ?_ ?_ ?_, V3.mk_eq ?_ ?_ ?_, V3.mk_eq ?_ ?_ ?_, V3.mk_eq ?_ ?_ ?_⟩ <;> grind
theorem then_id (a : M4) : thenS a idM = a := by
 obtain ⟨⟨a1, a2, a3⟩, ⟨a4, a5, a6⟩, ⟨a7, a8, a9⟩, ⟨a10, a11, a12⟩⟩ := a
 unfold thenS applyS turnS rowS idM vdot vadd
 simp only
 rw [M4.ext_iff']
 refine ⟨V3.mk_eq ?_ ?_ ?_, V3.mk_eq ?_ ?_ ?_, V3.mk_eq ?_ ?_ ?_, V3.mk_eq ?_ ?_ ?_⟩ <;> grind
theorem inv_unique {m b : M4} (h : detS m ≠ 0) (hb : thenS m b = idM) : b = inverseS m := by
 have : thenS (thenS (inverseS m) m) b = thenS (inverseS m) (thenS m b) := then_assoc _ _ _
 rw [then_inv m h, id_then, hb, then_id] at this
 exact this
end Go.K
end
section
namespace Go.K
open Go
structure MatL where
 kind : Int
 vals : List RL
 a : RL
 b : RL
structure FaceL where
 tri : TL
 mat : Int
structure ScL where
 waves : List RL
 mats : List MatL
 faces : List FaceL
 eye : VL
 look : VL
 w : Int
 h : Int
 half : RL
def dMat (Ψ : (t : Sd) → STy t) (m : MatL) : List D := .i .i64 m.kind :: .sl (Ψ .dRs m.vals) :: (dR Ψ m.a ++ dR Ψ m.b)
def dFace (Ψ : (t : Sd) → STy t) (f : FaceL) : List D := dT Ψ f.tri ++ [.i .i64 f.mat]
def dSc (Ψ : (t : Sd) → STy t) (MD FD : List D) (s : ScL) : List D := .sl (Ψ .dRs s.waves) :: .sl MD :: .sl FD :: (dV Ψ s.eye ++ dV Ψ s.look ++ (.i .i64 s.w :: .i .i64 s.h :: dR Ψ s.half))
def matsD (l : List MatL) : List D := l.map fun m => .agg (dMat Ψ m)
def facesD (l : List FaceL) : List D := l.map fun f => .agg (dFace Ψ f)
def rsq (q : Rat) : Option Rat := if q < 0 then none else if sq q.num.natAbs * sq q.num.natAbs = q.num.natAbs ∧ sq q.den * sq q.den = q.den then some (mkRat (sq q.num.natAbs) (sq q.den)) else none
def unitS (v : V3) : Option (V3 × Rat) := match rsq (vdot v v) with
 | none => none
 | some l => if l = 0 then none else some (vmul (1 / l) v, l)
def normS (t : T3) : V3 := vcross (vsub t.b t.a) (vsub t.c t.a)
def fitR (r : RL) : Bool := decide (r = Ψ .cr (rv r)) && (decide (bl (nv r.num) ≤ 64) && decide (bl (nv r.den) ≤ 64))
def fitV (v : VL) : Bool := fitR v.x && (fitR v.y && fitR v.z)
def fitM (m : MatL) : Bool := m.vals.all fitR && (fitR m.a && fitR m.b)
def fitF (f : FaceL) : Bool := fitV f.tri.a && (fitV f.tri.b && fitV f.tri.c)
def sizesS (s : ScL) : Bool := (s.waves.all fitR && (fitV s.eye && (fitV s.look && fitR s.half))) && (s.mats.all fitM && s.faces.all fitF)
def etaM (waves : List RL) (m : MatL) (bin : Nat) : Option Rat := match waves[bin]? with
 | none => none
 | some w => if m.kind = 2 ∧ rv w ≠ 0 then some (rv m.a + rv m.b / (rv w * rv w)) else none
def valB (waves : List RL) (m : MatL) (bin : Nat) (x : RL) : Bool :=
 !(decide (rv x < 0) || (decide (m.kind = 0) && decide (1 / 4 < rv x)) || ((decide (m.kind = 1) || decide (m.kind = 2)) && decide (1 < rv x))) && (match etaM waves m bin with | some e => decide (0 < e) | none => true)
def valsB (waves : List RL) (m : MatL) : Bool := m.vals.zipIdx.all fun x => valB waves m x.2 x.1
def matB (waves : List RL) (m : MatL) : Bool :=
 (decide (0 ≤ m.kind) && decide (m.kind < 4) && decide (m.vals.length = waves.length)) && (valsB waves m && (decide (m.kind = 2) || (decide (rv m.a = 0) && decide (rv m.b = 0))))
def faceB (n : Nat) (f : FaceL) : Bool := (unitS (normS (tv f.tri))).isSome && (decide (0 ≤ f.mat) && decide (f.mat < (n : Int)))
def viewB (s : ScL) : Bool := decide (vdot (vv s.look) (vv s.look) = 1) && (decide (1 ≤ s.w) && (decide (s.w ≤ 16) && (decide (1 ≤ s.h) && (decide (s.h ≤ 16) && decide (0 < rv s.half)))))
def manyB (s : ScL) : Bool := decide (1 ≤ s.waves.length) && (decide (s.waves.length ≤ 8) && (decide (s.mats.length ≤ 32) && (decide (1 ≤ s.faces.length) && decide (s.faces.length ≤ 64))))
def checkS (s : ScL) : Int :=
 if manyB s = false then 96 else if sizesS s = false then 97 else if (s.waves.all fun x => decide (0 < rv x)) = false then 98 else if s.mats.all (matB s.waves) = false then 98
 else if s.faces.all (faceB s.mats.length) = false then 99 else if viewB s = false then 100 else 0
structure Mtn (k : Nat) (m : MatL) : Prop where
 k1 : -9223372036854775808 ≤ m.kind
 k2 : m.kind ≤ 9223372036854775807
 l : m.vals.length ≤ k
 v : ∀ r, r ∈ m.vals → Rn k r
 a : Rn k m.a
 b : Rn k m.b
structure Fcn (k : Nat) (f : FaceL) : Prop where
 k1 : -9223372036854775808 ≤ f.mat
 k2 : f.mat ≤ 9223372036854775807
 t : Tn k f.tri
structure Scn (k : Nat) (s : ScL) : Prop where
 w1 : -9223372036854775808 ≤ s.w
 w2 : s.w ≤ 9223372036854775807
 h1 : -9223372036854775808 ≤ s.h
 h2 : s.h ≤ 9223372036854775807
 wl : s.waves.length ≤ k
 wv : ∀ r, r ∈ s.waves → Rn k r
 ml : s.mats.length ≤ k
 mv : ∀ m, m ∈ s.mats → Mtn k m
 fl : s.faces.length ≤ k
 fv : ∀ f, f ∈ s.faces → Fcn k f
 e : Vn k s.eye
 l : Vn k s.look
 hf : Rn k s.half
theorem fitR_n {r : RL} (h : fitR r = true) : Rn 2 r := by
 unfold fitR at h
 simp only [Bool.and_eq_true, decide_eq_true_eq] at h
 obtain ⟨h1, h2, h3⟩ := h
 have key : ∀ n : Nat, bl n ≤ 64 → n < 4294967296 ^ 2 := fun n hn => bl_le.1 hn
 rw [h1]
 refine Rn_cr.2 ⟨?_, ?_⟩
 ·rw [h1] at h2
  have := key _ h2
  rw [p_cr] at this
  simpa [nv_cn] using this
 ·rw [h1] at h3
  have := key _ h3
  rw [p_cr] at this
  simpa [nv_cn] using this
theorem fitV_n {v : VL} (h : fitV v = true) : Vn 2 v := by
 unfold fitV at h
 simp only [Bool.and_eq_true] at h
 exact ⟨fitR_n h.1, fitR_n h.2.1, fitR_n h.2.2⟩
theorem fitF_n {f : FaceL} (h : fitF f = true) : Tn 2 f.tri := by
 unfold fitF at h
 simp only [Bool.and_eq_true] at h
 exact ⟨fitV_n h.1, fitV_n h.2.1, fitV_n h.2.2⟩
end Go.K
end
