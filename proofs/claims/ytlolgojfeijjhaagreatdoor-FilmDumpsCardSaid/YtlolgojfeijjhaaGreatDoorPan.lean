/-
  Parts of the proof, joined by a program of this work: KRef3, KAuto, KAuto2, KAuto3, KSqrtP, KRoot, KVec, KTri, KRef5, KHit, KRefHit, KCd, KAffS, KScene, KRoot2, KUnit, KScene2, KScene4.
-/
import Derived.Test.YtlolgojfeijjhaaGreatDoorPam
import Derived.Test.YtlolgojfeijjhaaGreatDoorPal
import Derived.Test.YtlolgojfeijjhaaGreatDoorPak
set_option linter.unusedSimpArgs false
set_option linter.unusedVariables false
set_option maxHeartbeats 8000000
set_option maxRecDepth 20000
section
namespace Go.K.S
open Go Go.K
theorem zero3_good : Good P F.penumbraref03_Zero [] [] (.d (.agg (dR Ψ (Ψ .cr 0)))) [] := by
 refine G.penumbraref03_Zero fun C C2 hC hC2 => ?_
 rw [cr_zero]
 refine nx ?_
 rfl
theorem one3_good : Good P F.penumbraref03_One [] [] (.d (.agg (dR Ψ (Ψ .cr 1)))) [] := by
 refine G.penumbraref03_One fun C C2 hC hC2 => ?_
 rw [cr_one]
 refine nx ?_
 rfl
theorem read3_good (r : RL) {k : Nat} (h : Rn k r) (hk : k < 137438953472) : Good P F.penumbraref03_Read [.d (.agg (dR Ψ r))] [] (.d (.agg (dR Ψ (Ψ .cr (rv r))))) [] := by
 refine G.penumbraref03_Read fun C C2 hC hC2 => ?_
 have n1 := h.N1 (by omega)
 have n2 := h.N2 (by omega)
 have k1 := h.kn
 have k2 := h.kd
 have g1 := zero1_good r.den n2
 have g2 := zero1_good r.num n1
 have hz := @rv_zero_iff r
 by_cases hd : nv r.den = 0
 ·rw [hz.2 (.inr hd)]
  rw [decide_eq_true hd] at g1
  have g3 := zero3_good
  generalize Ψ .cr 0 = R at *
  obtain ⟨s, x, y⟩ := r
  simp only at *
  refine nx ?_
  refine ⟨_, hC _ _ _ g1, ?_⟩
  refine nx ?_
  refine ⟨_, hC _ _ _ g3, ?_⟩
  exact nx trivial
 rw [decide_eq_false hd] at g1
 by_cases hn : nv r.num = 0
 ·rw [hz.2 (.inl hn)]
  rw [decide_eq_true hn] at g2
  have g3 := zero3_good
  generalize Ψ .cr 0 = R at *
  obtain ⟨s, x, y⟩ := r
  simp only at *
  refine nx ?_
  refine ⟨_, hC _ _ _ g1, ?_⟩
  refine nx ?_
  refine ⟨_, hC _ _ _ g2, ?_⟩
  refine nx ?_
  refine ⟨_, hC _ _ _ g3, ?_⟩
  exact nx trivial
 rw [decide_eq_false hn] at g2
 have g3 := gcd1_good r.num r.den n1 n2 (by omega) (by omega)
 have hcr := cr_mk (b := r.neg) hn hd
 have hrv : rv r = mkRat (sg r.neg (nv r.num)) (nv r.den) := rfl
 rw [← hrv] at hcr
 have hg0 : (nv r.num).gcd (nv r.den) ≠ 0 := Nat.gcd_ne_zero_left hn
 have hgl : (Ψ .cn ((nv r.num).gcd (nv r.den))).length ≤ r.num.length := len_cn.2 (Nat.lt_of_le_of_lt (Nat.gcd_le_left _ (Nat.pos_of_ne_zero hn)) (nv_lt n1.lim))
 have g4 := divmod1_good r.num (Ψ .cn ((nv r.num).gcd (nv r.den))) n1 ⟨lim_cn _, by omega⟩ (by omega) (by omega) (by rw [nv_cn]; exact hg0)
 have g5 := divmod1_good r.den (Ψ .cn ((nv r.num).gcd (nv r.den))) n2 ⟨lim_cn _, by omega⟩ (by omega) (by omega) (by rw [nv_cn]; exact hg0)
 rw [nv_cn] at g4 g5
 obtain ⟨R, hR⟩ : ∃ R, R = Ψ .cr (rv r) := ⟨_, rfl⟩
 rw [← hR] at hcr ⊢
 clear hR hrv hz
 generalize (nv r.num).gcd (nv r.den) = g at *
 generalize nv r.num / g = u1 at *
 generalize nv r.num % g = u2 at *
 generalize nv r.den / g = u3 at *
 generalize nv r.den % g = u4 at *
 obtain ⟨s, x, y⟩ := r
 simp only at *
 subst hcr
 refine nx ?_
 refine ⟨_, hC _ _ _ g1, ?_⟩
 refine nx ?_
 refine ⟨_, hC _ _ _ g2, ?_⟩
 refine nx ?_
 refine ⟨_, hC _ _ _ g3, ?_⟩
 refine nx ?_
 refine ⟨_, hC _ _ _ g4, ?_⟩
 refine nx ?_
 refine ⟨_, hC _ _ _ g5, ?_⟩
 exact nx trivial
theorem is3_good (a b : RL) {j k : Nat} (ha : Rn j a) (hb : Rn k b) (hj : j < 1099511627776) (hk : k < 1099511627776) :
  Good P F.penumbraref03_Is [.d (.agg (dR Ψ a)), .d (.agg (dR Ψ b))] [] (.d (.b (decide (a = b)))) [] := by
 refine G.penumbraref03_Is fun C C2 hC hC2 => ?_
 have k1 := ha.kn
 have k2 := ha.kd
 have k3 := hb.kn
 have k4 := hb.kd
 have g1 := same1_good a.num b.num (by omega) (by omega)
 have g2 := same1_good a.den b.den (by omega) (by omega)
 obtain ⟨R, hR⟩ : ∃ R, R = decide (a = b) := ⟨_, rfl⟩
 rw [← hR]
 have hR2 : R = (decide (a.neg = b.neg) && (decide (a.num = b.num) && decide (a.den = b.den))) := by
  rw [hR, ← Bool.decide_and, ← Bool.decide_and]
  exact decide_eq_decide.2 RL.ext_iff''
 clear hR
 generalize decide (a.num = b.num) = t1 at *
 generalize decide (a.den = b.den) = t2 at *
 obtain ⟨s, x, y⟩ := a
 obtain ⟨s', x', y'⟩ := b
 simp only at *
 subst hR2
 cases s <;> cases s' <;> cases t1 <;> cases t2
 all_goals exact run trivial
theorem abs3_good (n : Int) (h1 : -9223372036854775808 ≤ n) (h2 : n ≤ 9223372036854775807) : Good P F.penumbraref03_abs [.d (.i .i64 n)] [] (.d (dN Ψ (Ψ .cn n.natAbs))) [] := by
 refine G.penumbraref03_abs fun C C2 hC hC2 => ?_
 have g := of1_good n.natAbs (by omega)
 obtain ⟨m, hm⟩ : ∃ m, m = n.natAbs := ⟨_, rfl⟩
 rw [← hm] at g ⊢
 refine nx ?_
 refine BrG.split (fun h => ?_) (fun h => ?_)
 ·have h0 := of_decide_eq_true h
  have e : Ω .wrap .u64 (Ω .wrap .u64 (Ω .wrap .i64 (0 - Ω .wrap .i64 (n + 1))) + 1) = Ω .ci m := by
   rw [wrap64 (n := n + 1) (by omega) (by omega), wrap64 (by omega) (by omega), wrapu64, wrapu64]; simp only [wz]; omega
  refine nx ?_
  rw [e]
  refine ⟨_, hC _ _ _ g, ?_⟩
  exact nx trivial
 ·have h0 := of_decide_eq_false h
  have e : Ω .wrap .u64 n = Ω .ci m := by
   rw [wrapu64]; simp only [wz]; omega
  refine nx ?_
  rw [e]
  refine ⟨_, hC _ _ _ g, ?_⟩
  exact nx trivial
theorem of3_good (n d : Int) (h1 : -9223372036854775808 ≤ n) (h2 : n ≤ 9223372036854775807) (h3 : -9223372036854775808 ≤ d) (h4 : d ≤ 9223372036854775807) :
  Good P F.penumbraref03_Of [.d (.i .i64 n), .d (.i .i64 d)] [] (.d (.agg (dR Ψ (Ψ .cr ((n : Rat) / (d : Rat)))))) [] := by
 refine G.penumbraref03_Of fun C C2 hC hC2 => ?_
 have g1 := abs3_good n h1 h2
 have g2 := abs3_good d h3 h4
 have b1 : n.natAbs < 4294967296 ^ 2 := by omega
 have b2 : d.natAbs < 4294967296 ^ 2 := by omega
 have g3 := fun s => read3_good ⟨s, Ψ .cn n.natAbs, Ψ .cn d.natAbs⟩ (k := 2) ⟨lim_cn _, lim_cn _, len_cn.2 b1, len_cn.2 b2⟩ (by omega)
 simp only [rv_mk, nv_cn] at g3
 have hv := of_mk n d
 obtain ⟨R, hR⟩ : ∃ R, R = Ψ .cr ((n : Rat) / (d : Rat)) := ⟨_, rfl⟩
 rw [← hR]
 rw [← hv] at hR
 clear hv
 generalize n.natAbs = u at *
 generalize d.natAbs = v at *
 have g3' : ∀ s, R = Ψ .cr (mkRat (sg s u) v) → Good P F.penumbraref03_Read [.d (.agg (dR Ψ ⟨s, Ψ .cn u, Ψ .cn v⟩))] [] (.d (.agg (dR Ψ R))) [] := fun s e => e ▸ g3 s
 refine nx ?_
 have hn : n < 0 ∨ 0 ≤ n := by omega
 have hd : d < 0 ∨ 0 ≤ d := by omega
 rcases hn with hn | hn <;> rcases hd with hd | hd
 all_goals
  first | rw [decide_eq_true (show n < 0 by omega)] at * | rw [decide_eq_false (show ¬ n < 0 by omega)] at *
  first | rw [decide_eq_true (show d < 0 by omega)] at hR | rw [decide_eq_false (show ¬ d < 0 by omega)] at hR
  refine nx ?_
  repeat (first
   | (rw [lt_true.2 (show n < 0 by omega)]; refine nx ?_)
   | (rw [lt_false.2 (show 0 ≤ n by omega)]; refine nx ?_)
   | (rw [lt_true.2 (show d < 0 by omega)]; refine nx ?_)
   | (rw [lt_false.2 (show 0 ≤ d by omega)]; refine nx ?_)
   | (rw [le_true.2 (show 0 ≤ n by omega)]; refine nx ?_)
   | (rw [le_false.2 (show n < 0 by omega)]; refine nx ?_)
   | (rw [le_true.2 (show 0 ≤ d by omega)]; refine nx ?_)
   | (rw [le_false.2 (show d < 0 by omega)]; refine nx ?_))
  have g := g3' _ hR
  refine ⟨_, hC _ _ _ g1, ?_⟩
  refine nx ?_
  refine ⟨_, hC _ _ _ g2, ?_⟩
  refine nx ?_
  refine ⟨_, hC _ _ _ g, ?_⟩
  exact nx trivial
theorem sign3_good (r : RL) {k : Nat} (h : Rn k r) (hk : k < 549755813888) : Good P F.penumbraref03_Sign [.d (.agg (dR Ψ r))] [] (.d (.i .i64 (Ψ .sI (rv r)))) [] := by
 refine G.penumbraref03_Sign fun C C2 hC hC2 => ?_
 have g1 := zero1_good r.num (h.N1 (by omega))
 have g2 := zero1_good r.den (h.N2 (by omega))
 have z := @rv_zero_iff r
 have hs := @sI_rv r
 have h0 := @sI_zero (rv r)
 rw [z] at h0
 obtain ⟨R, hR⟩ : ∃ R, R = Ψ .sI (rv r) := ⟨_, rfl⟩
 rw [← hR] at hs h0 ⊢
 by_cases hm : nv r.num = 0
 ·rw [decide_eq_true hm] at g1
  have := h0.2 (.inl hm)
  subst this
  obtain ⟨s, x, y⟩ := r
  simp only at *
  refine nx ?_
  refine ⟨_, hC _ _ _ g1, ?_⟩
  exact nx trivial
 rw [decide_eq_false hm] at g1
 by_cases hn : nv r.den = 0
 ·rw [decide_eq_true hn] at g2
  have := h0.2 (.inr hn)
  subst this
  obtain ⟨s, x, y⟩ := r
  simp only at *
  refine nx ?_
  refine ⟨_, hC _ _ _ g1, ?_⟩
  refine nx ?_
  refine ⟨_, hC _ _ _ g2, ?_⟩
  exact nx trivial
 rw [decide_eq_false hn] at g2
 have := hs hm hn
 subst this
 obtain ⟨s, x, y⟩ := r
 simp only at *
 cases s
 all_goals
  refine nx ?_
  refine ⟨_, hC _ _ _ g1, ?_⟩
  refine nx ?_
  refine ⟨_, hC _ _ _ g2, ?_⟩
  exact nx trivial
theorem mul3_good (a b : RL) {j k : Nat} (ha : Rn j a) (hb : Rn k b) (hj2 : j < 68719476736) (hk2 : k < 68719476736) :
  Good P F.penumbraref03_Mul [.d (.agg (dR Ψ a)), .d (.agg (dR Ψ b))] [] (.d (.agg (dR Ψ (Ψ .cr (rv a * rv b))))) [] := by
 refine G.penumbraref03_Mul fun C C2 hC hC2 => ?_
 have p1 := ha.N1 (by omega)
 have p2 := ha.N2 (by omega)
 have q1 := hb.N1 (by omega)
 have q2 := hb.N2 (by omega)
 have lp1 := ha.kn
 have lp2 := ha.kd
 have lq1 := hb.kn
 have lq2 := hb.kd
 have m1 := mul1_good a.num b.num p1 q1 (by omega) (by omega)
 have m2 := mul1_good a.den b.den p2 q2 (by omega) (by omega)
 have b1 : nv a.num * nv b.num < 4294967296 ^ (j + k) := lt_mul_pow (nv_lt_pow p1.lim lp1) (nv_lt_pow q1.lim lq1)
 have b2 : nv a.den * nv b.den < 4294967296 ^ (j + k) := lt_mul_pow (nv_lt_pow p2.lim lp2) (nv_lt_pow q2.lim lq2)
 have g := read3_good ⟨a.neg != b.neg, Ψ .cn (nv a.num * nv b.num), Ψ .cn (nv a.den * nv b.den)⟩ (k := j + k) ⟨lim_cn _, lim_cn _, len_cn.2 b1, len_cn.2 b2⟩ (by omega)
 rw [rv_mk, nv_cn, nv_cn, ← rv_mul] at g
 generalize nv a.num * nv b.num = u at *
 generalize nv a.den * nv b.den = v at *
 generalize Ψ .cr (rv a * rv b) = R at *
 obtain ⟨s, x, y⟩ := a
 obtain ⟨s', x', y'⟩ := b
 simp only at *
 cases s <;> cases s'
 all_goals
  refine nx ?_
  refine ⟨_, hC _ _ _ m1, ?_⟩
  refine nx ?_
  refine ⟨_, hC _ _ _ m2, ?_⟩
  refine nx ?_
  refine ⟨_, hC _ _ _ g, ?_⟩
  exact nx trivial
theorem neg3_good (r : RL) {k : Nat} (h : Rn k r) (hk : k < 137438953472) : Good P F.penumbraref03_Neg [.d (.agg (dR Ψ r))] [] (.d (.agg (dR Ψ (Ψ .cr (- rv r))))) [] := by
 refine G.penumbraref03_Neg fun C C2 hC hC2 => ?_
 have g := read3_good ⟨!r.neg, r.num, r.den⟩ (k := k) ⟨h.ln, h.ld, h.kn, h.kd⟩ hk
 rw [rv_neg] at g
 generalize Ψ .cr (- rv r) = R at *
 obtain ⟨s, x, y⟩ := r
 simp only at *
 cases s
 all_goals
  refine nx ?_
  refine ⟨_, hC _ _ _ g, ?_⟩
  exact nx trivial
theorem add3_good (a b : RL) {j k : Nat} (ha : Rn j a) (hb : Rn k b) (hj2 : j < 68719476736) (hk2 : k < 68719476736) :
  Good P F.penumbraref03_Add [.d (.agg (dR Ψ a)), .d (.agg (dR Ψ b))] [] (.d (.agg (dR Ψ (Ψ .cr (rv a + rv b))))) [] := by
 refine G.penumbraref03_Add fun C C2 hC hC2 => ?_
 have p1 := ha.N1 (by omega)
 have p2 := ha.N2 (by omega)
 have q1 := hb.N1 (by omega)
 have q2 := hb.N2 (by omega)
 have lp1 := ha.kn
 have lp2 := ha.kd
 have lq1 := hb.kn
 have lq2 := hb.kd
 have s1 := sign3_good a ha (by omega)
 have s2 := sign3_good b hb (by omega)
 have r1 := read3_good a ha (by omega)
 have r2 := read3_good b hb (by omega)
 obtain ⟨R, hR⟩ : ∃ R, R = Ψ .cr (rv a + rv b) := ⟨_, rfl⟩
 rw [← hR]
 by_cases h1 : rv a = 0
 ·have : R = Ψ .cr (rv b) := by rw [hR, h1, Rat.zero_add]
  rw [sI_zero.2 h1] at s1
  rw [← this] at r2
  clear hR this
  obtain ⟨s, x, y⟩ := a
  obtain ⟨s', x', y'⟩ := b
  simp only at *
  refine nx ?_
  refine ⟨_, hC _ _ _ s1, ?_⟩
  refine nx ?_
  refine BrG.yes rfl ?_
  refine nx ?_
  refine ⟨_, hC _ _ _ r2, ?_⟩
  exact nx trivial
 by_cases h2 : rv b = 0
 ·have : R = Ψ .cr (rv a) := by rw [hR, h2, Rat.add_zero]
  have h3 := mt sI_zero.1 h1
  rw [sI_zero.2 h2] at s2
  rw [← this] at r1
  clear hR this h1
  generalize Ψ .sI (rv a) = t at *
  obtain ⟨s, x, y⟩ := a
  obtain ⟨s', x', y'⟩ := b
  simp only at *
  refine nx ?_
  refine ⟨_, hC _ _ _ s1, ?_⟩
  refine nx ?_
  refine BrG.split (fun h => ?_) (fun h => ?_)
  ·exact absurd (by have := h; simp only [wz] at this ⊢; omega) h3
  refine nx ?_
  refine ⟨_, hC _ _ _ s2, ?_⟩
  refine nx ?_
  refine BrG.yes rfl ?_
  refine nx ?_
  refine ⟨_, hC _ _ _ r1, ?_⟩
  exact nx trivial
 have h3 := mt sI_zero.1 h1
 have h4 := mt sI_zero.1 h2
 have hda : nv a.den ≠ 0 := fun c => h1 (rv_zero_iff.2 (.inr c))
 have hdb : nv b.den ≠ 0 := fun c => h2 (rv_zero_iff.2 (.inr c))
 rw [rv_add hda hdb] at hR
 have m1 := mul1_good a.num b.den p1 q2 (by omega) (by omega)
 have m2 := mul1_good b.num a.den q1 p2 (by omega) (by omega)
 have m3 := mul1_good a.den b.den p2 q2 (by omega) (by omega)
 have b1 : nv a.num * nv b.den < 4294967296 ^ (j + k) := lt_mul_pow (nv_lt_pow p1.lim lp1) (nv_lt_pow q2.lim lq2)
 have b2 : nv b.num * nv a.den < 4294967296 ^ (j + k) := by rw [Nat.add_comm]; exact lt_mul_pow (nv_lt_pow q1.lim lq1) (nv_lt_pow p2.lim lp2)
 have b3 : nv a.den * nv b.den < 4294967296 ^ (j + k) := lt_mul_pow (nv_lt_pow p2.lim lp2) (nv_lt_pow q2.lim lq2)
 clear h1 h2 r1 r2 hda hdb
 generalize Ψ .sI (rv a) = t1 at *
 generalize Ψ .sI (rv b) = t2 at *
 generalize nv a.num * nv b.den = x at *
 generalize nv b.num * nv a.den = y at *
 generalize nv a.den * nv b.den = z at *
 obtain ⟨s, n1, d1⟩ := a
 obtain ⟨t, n2, d2⟩ := b
 simp only at *
 have hNx := N_cn b1 (by omega)
 have ny := N_cn b2 (by omega)
 have nz := N_cn b3 (by omega)
 have lx := len_cn.2 b1
 have ly := len_cn.2 b2
 have lz := len_cn.2 b3
 have gadd := add1_good (Ψ .cn x) (Ψ .cn y) hNx ny (by omega) (by omega)
 rw [nv_cn, nv_cn] at gadd
 have badd : x + y < 4294967296 ^ (j + k + 1) := by rw [Nat.pow_succ]; omega
 have bs1 : x - y < 4294967296 ^ (j + k) := by omega
 have bs2 : y - x < 4294967296 ^ (j + k) := by omega
 have g1 := read3_good ⟨s, Ψ .cn (x + y), Ψ .cn z⟩ (k := j + k + 1) ⟨lim_cn _, lim_cn _, len_cn.2 badd, by simp only; omega⟩ (by omega)
 have g2 := read3_good ⟨s, Ψ .cn (x - y), Ψ .cn z⟩ (k := j + k + 1) ⟨lim_cn _, lim_cn _, by have := len_cn.2 bs1; simp only; omega, by simp only; omega⟩ (by omega)
 have g3 := read3_good ⟨t, Ψ .cn (y - x), Ψ .cn z⟩ (k := j + k + 1) ⟨lim_cn _, lim_cn _, by have := len_cn.2 bs2; simp only; omega, by simp only; omega⟩ (by omega)
 rw [rv_mk, nv_cn, nv_cn] at g1 g2 g3
 have gc := cmp1_good (Ψ .cn x) (Ψ .cn y) hNx ny
 rw [nv_cn, nv_cn] at gc
 have hci := @cmpI_nonneg x y
 have gsub : y ≤ x → _ := fun h => sub1_good (Ψ .cn x) (Ψ .cn y) hNx ny (by omega) (by rw [nv_cn, nv_cn]; exact h)
 have gsub3 : x ≤ y → _ := fun h => sub1_good (Ψ .cn y) (Ψ .cn x) ny hNx (by omega) (by rw [nv_cn, nv_cn]; exact h)
 rw [nv_cn, nv_cn] at gsub gsub3
 have e1 : s = t → mkRat (sg s (x + y)) z = mkRat (sg s x + sg t y) z := fun h => by subst h; rw [sg_add_same]
 have e2 : s ≠ t → y ≤ x → mkRat (sg s (x - y)) z = mkRat (sg s x + sg t y) z := fun h h2 => by rw [sg_add_diff h h2]
 have e3 : s ≠ t → x ≤ y → mkRat (sg t (y - x)) z = mkRat (sg s x + sg t y) z := fun h h2 => by rw [Int.add_comm, sg_add_diff (fun c => h c.symm) h2]
 generalize Ψ .cmpI x y = c at *
 refine nx ?_
 refine ⟨_, hC _ _ _ s1, ?_⟩
 refine nx ?_
 refine BrG.split (fun h => ?_) (fun h => ?_)
 ·exact absurd (by have := h; simp only [wz] at this ⊢; omega) h3
 refine nx ?_
 refine ⟨_, hC _ _ _ s2, ?_⟩
 refine nx ?_
 refine BrG.split (fun h => ?_) (fun h => ?_)
 ·exact absurd (by have := h; simp only [wz] at this ⊢; omega) h4
 refine nx ?_
 refine ⟨_, hC _ _ _ m1, ?_⟩
 refine nx ?_
 refine ⟨_, hC _ _ _ m2, ?_⟩
 refine nx ?_
 refine ⟨_, hC _ _ _ m3, ?_⟩
 refine nx ?_
 refine BrG.split (fun h => ?_) (fun h => ?_)
 ·have hst : s = t := by simpa using h
  rw [e1 hst, ← hR] at g1
  refine nx ?_
  refine ⟨_, hC _ _ _ gadd, ?_⟩
  refine nx ?_
  refine ⟨_, hC _ _ _ g1, ?_⟩
  exact nx trivial
 ·have hst : s ≠ t := by simpa using h
  refine nx ?_
  refine ⟨_, hC _ _ _ gc, ?_⟩
  refine nx ?_
  refine BrG.split (fun h => ?_) (fun h => ?_)
  ·have hge := hci.1 (of_decide_eq_true h)
   rw [e2 hst hge, ← hR] at g2
   refine nx ?_
   refine ⟨_, hC _ _ _ (gsub hge), ?_⟩
   refine nx ?_
   refine ⟨_, hC _ _ _ g2, ?_⟩
   exact nx trivial
  ·have hlt := mt hci.2 (of_decide_eq_false h)
   rw [e3 hst (by omega), ← hR] at g3
   refine nx ?_
   refine ⟨_, hC _ _ _ (gsub3 (by omega)), ?_⟩
   refine nx ?_
   refine ⟨_, hC _ _ _ g3, ?_⟩
   exact nx trivial
theorem sub3_good (a b : RL) {j k : Nat} (ha : Rn j a) (hb : Rn k b) (hk : 0 < k) (hj2 : j < 68719476736) (hk2 : k < 68719476736) :
  Good P F.penumbraref03_Sub [.d (.agg (dR Ψ a)), .d (.agg (dR Ψ b))] [] (.d (.agg (dR Ψ (Ψ .cr (rv a - rv b))))) [] := by
 refine G.penumbraref03_Sub fun C C2 hC hC2 => ?_
 have g1 := neg3_good b hb (by omega)
 have g2 := add3_good a (Ψ .cr (- rv b)) ha (Rn_cr.2 (Qn_neg (Qn_rv hb hk))) hj2 hk2
 rw [rv_cr, ← Rat.sub_eq_add_neg] at g2
 generalize Ψ .cr (- rv b) = B at *
 generalize Ψ .cr (rv a - rv b) = R at *
 obtain ⟨s, x, y⟩ := a
 obtain ⟨s', x', y'⟩ := b
 refine nx ?_
 refine ⟨_, hC _ _ _ g1, ?_⟩
 refine nx ?_
 refine ⟨_, hC _ _ _ g2, ?_⟩
 exact nx trivial
theorem cmp3_good (a b : RL) {j k : Nat} (ha : Rn j a) (hb : Rn k b) (hj : 0 < j) (hk : 0 < k) (hj2 : j < 68719476736) (hk2 : k < 68719476736) :
  Good P F.penumbraref03_Cmp [.d (.agg (dR Ψ a)), .d (.agg (dR Ψ b))] [] (.d (.i .i64 (Ψ .cI (rv a) (rv b)))) [] := by
 refine G.penumbraref03_Cmp fun C C2 hC hC2 => ?_
 have g1 := sub3_good a b ha hb hk hj2 hk2
 have g2 := sign3_good (Ψ .cr (rv a - rv b)) (Rn_cr.2 (Qn_sub (Qn_rv ha hj) (Qn_rv hb hk))) (by omega)
 rw [rv_cr, cI_sub] at g2
 generalize Ψ .cr (rv a - rv b) = R at *
 generalize Ψ .cI (rv a) (rv b) = c at *
 obtain ⟨sa, xa, ya⟩ := a
 obtain ⟨sb, xb, yb⟩ := b
 refine nx ?_
 refine ⟨_, hC _ _ _ g1, ?_⟩
 refine nx ?_
 refine ⟨_, hC _ _ _ g2, ?_⟩
 exact nx trivial
end Go.K.S
end
section
namespace Go.K
theorem slen_scat (a b : List D) : Ω .slen (Ω .scat a b) = Ω .slen a + Ω .slen b := by simp [w_slen, w_scat]
theorem cells_dRs (l : List RL) : ∀ u, u ∈ Ψ .dRs l → u.cells.length = 3 := fun u h => by
 rw [p_dRs, List.mem_map] at h
 obtain ⟨r, _, rfl⟩ := h
 rfl
structure Hid (Q : Prop) : Prop where
 out : Q
end Go.K
end
section
namespace Go.K
end Go.K
end
section
namespace Go.K
theorem rq {P Q : Prop} (q : Q) (h : Hid Q → P := by
 intro q; (generalize hΩ : Ω = ω, hΨ : Ψ = ψ; cbv <;> subst hΩ hΨ <;> try simp only [lits, true_and, Int.reduceAdd, Int.reduceSub, Int.reduceMul, not_u32, slen_nil, tn_ci, tn_zero, slen_lims, slen_dRs, slen_dVs, slen_dBs])
 (repeat (
  first
   | refine ⟨_, hC _ _ _ (by assumption), ?_⟩
   | refine ⟨_, _, hC2 _ _ _ _ _ (by assumption), ?_⟩
   | refine ⟨_, hC2 _ _ _ _ _ (by assumption), rfl, rfl, ?_⟩
   | refine ⟨ci_nonneg _, _, (by assumption), rfl, ?_⟩
   | refine ⟨_, (by assumption), rfl, ?_⟩
   | refine ⟨ci_nonneg _, (by simp only [wz, slen_scat]; omega), _, (by assumption), (by first | exact Nat.le_refl _ | (simp; done)), rfl, ?_⟩
   | refine ⟨(by first | exact fun u h => by rw [List.mem_singleton.1 h]; rfl | exact cells_dRs _ | assumption), (by simp only [wz, slen_scat]; omega), ?_⟩
   | refine BrG.yes (by first | assumption | decide) ?_
   | refine BrG.no (by first | assumption | decide) ?_
  (generalize hΩ : Ω = ω, hΨ : Ψ = ψ; cbv <;> subst hΩ hΨ <;> try simp only [lits, true_and, Int.reduceAdd, Int.reduceSub, Int.reduceMul, not_u32, slen_nil, tn_ci, tn_zero, slen_lims, slen_dRs, slen_dVs, slen_dBs])))
 all_goals with_reducible exact q.out) : P := h ⟨q⟩
end Go.K
end
section
namespace Go.K
open Go
end Go.K
end
section
namespace Go.K
open Go
end Go.K
namespace Go.K.S
open Go Go.K
theorem equal_good (a b : List Nat) (hal : a.length < 1099511627776) (hbl : b.length < 1099511627776) : Good P F.slices_Equal_L_uint32_uint32 [.d (dN Ψ a), .d (dN Ψ b)] [] (.d (.b (decide (a = b)))) [] := by
 refine G.slices_Equal_L_uint32_uint32 fun C C2 hC hC2 => ?_
 generalize hr : decide (a = b) = r
 refine nx ?_
 refine BrG.split (fun h => ?_) (fun h => ?_)
 ·have hne : a.length ≠ b.length := by have := h; simp only [wz] at this ⊢; omega
  have : r = false := by rw [← hr]; exact decide_eq_false (fun q => hne (by rw [q]))
  subst this
  exact nx trivial
 ·have he : a.length = b.length := by have := h; simp only [wz] at this ⊢; omega
  refine nx ?_
  refine LoopG.intro (σ := Nat) [0, 1, 12, 13] [] (fun k => [.d (dN Ψ a), .d (dN Ψ b), .d (.i .i64 (Ω .ci a.length)), .d (.i .i64 (Ω .ci k))]) (fun _ => []) (fun k => k ≤ a.length ∧ a.take k = b.take k) (fun k => a.length - k) 0 []
   ⟨Nat.zero_le _, rfl⟩ ⟨rfl, rfl, rfl⟩ ?_
  rintro k ⟨hk, hd⟩
  refine nx ?_
  refine BrG.split (fun h => ?_) (fun h => ?_)
  ·have hk0 : k < a.length := by have := h; simp only [wz] at this; omega
   obtain ⟨u, hu⟩ : ∃ u, a[k]? = some u := ⟨_, List.getElem?_eq_getElem (by omega)⟩
   obtain ⟨v, hv⟩ : ∃ v, b[k]? = some v := ⟨_, List.getElem?_eq_getElem (by omega)⟩
   refine nx ?_
   refine idx_lims k u rfl hu rfl ?_
   refine nx ?_
   refine idx_lims k v rfl hv rfl ?_
   refine nx ?_
   refine BrG.split (fun h => ?_) (fun h => ?_)
   ·have huv : u ≠ v := by have := h; simp only [wz] at this ⊢; omega
    have : r = false := by
     rw [← hr]
     refine decide_eq_false (fun q => huv ?_)
     rw [q, hv] at hu
     exact (Option.some.inj hu).symm
    subst this
    exact nx trivial
   ·have huv : u = v := by have := h; simp only [wz] at this ⊢; omega
    subst huv
    refine nx ?_
    refine ⟨k + 1, [], ⟨hk0, ?_⟩, by omega, rfl, ?_, rfl⟩
    ·rw [List.take_add_one, List.take_add_one, hd, hu, hv]
    ·refine Eq.trans (b := [V.d (dN Ψ a), V.d (dN Ψ b), .d (.i .i64 (Ω .ci a.length)), V.d (.i .i64 _)]) rfl ?_
     rw [wrap_succ (by omega)]
  ·have hk0 : k = a.length := by have := h; simp only [wz] at this; omega
   subst hk0
   have : r = true := by
    rw [← hr]
    refine decide_eq_true ?_
    rw [List.take_length, he, List.take_length] at hd
    exact hd
   subst this
   exact nx trivial
theorem rcheck_good (r : RL) {k : Nat} (h : Rn k r) (hk0 : 0 < k) (hk : k < 549755813888) : Good P F.rat_Check [.d (.agg (dR Ψ r))] [] (.d (.b (decide (r = Ψ .cr (rv r))))) [] := by
 refine G.rat_Check fun C C2 hC hC2 => ?_
 have g1 := read_good r h hk
 have q := Rn_cr.2 (Qn_rv h hk0)
 generalize Ψ .cr (rv r) = x at *
 have k1 := h.kn
 have k2 := h.kd
 have k3 := q.kn
 have k4 := q.kd
 have g2 := equal_good x.num r.num (by omega) (by omega)
 have g3 := equal_good x.den r.den (by omega) (by omega)
 have hR2 : decide (r = x) = (decide (x.neg = r.neg) && (decide (x.num = r.num) && decide (x.den = r.den))) := by
  rw [← Bool.decide_and, ← Bool.decide_and]
  exact decide_eq_decide.2 (RL.ext_iff''.trans ⟨fun h => ⟨h.1.symm, h.2.1.symm, h.2.2.symm⟩, fun h => ⟨h.1.symm, h.2.1.symm, h.2.2.symm⟩⟩)
 rw [hR2]
 clear hR2
 generalize decide (x.num = r.num) = t1 at *
 generalize decide (x.den = r.den) = t2 at *
 obtain ⟨s, x, y⟩ := x
 obtain ⟨s', x', y'⟩ := r
 simp only at *
 cases s <;> cases s' <;> cases t1 <;> cases t2
 all_goals exact rq trivial
end Go.K.S
end
section
namespace Go.K.S
open Go Go.K
theorem sum2_good (a b : RL) {k : Nat} (ha : Rn k a) (hb : Rn k b) (hk : 0 < k) (hk2 : k < 17179869184) :
  Good P F.rat_Sum [.d (.sl [.agg (dR Ψ a), .agg (dR Ψ b)])] [] (.d (.agg (dR Ψ (Ψ .cr (rv a + rv b))))) [] := by
 have := sum_good [a, b] (k := k) (fun r h => by rcases mem2 h with rfl | rfl <;> assumption) hk (by simp only [List.length_cons, List.length_nil]; omega)
 rw [rsum2] at this
 exact this
theorem prod2_good (a b : RL) {k : Nat} (ha : Rn k a) (hb : Rn k b) (hk : 0 < k) (hk2 : k < 17179869184) :
  Good P F.rat_Product [.d (.sl [.agg (dR Ψ a), .agg (dR Ψ b)])] [] (.d (.agg (dR Ψ (Ψ .cr (rv a * rv b))))) [] := by
 have := product_good [a, b] (k := k) (fun r h => by rcases mem2 h with rfl | rfl <;> assumption) hk (by simp only [List.length_cons, List.length_nil]; omega)
 rw [rprod2] at this
 exact this
end Go.K.S
end
section
namespace Go.K.S
open Go Go.K
end Go.K.S
end
section
namespace Go.K.S
open Go Go.K
end Go.K.S
end
section
namespace Go.K
open Go
structure TL where
 a : VL
 b : VL
 c : VL
structure T3 where
 a : V3
 b : V3
 c : V3
def dT (Ψ : (t : Sd) → STy t) (t : TL) : List D := dV Ψ t.a ++ dV Ψ t.b ++ dV Ψ t.c
structure Tn (k : Nat) (t : TL) : Prop where
 a : Vn k t.a
 b : Vn k t.b
 c : Vn k t.c
theorem Tn.mono {j k : Nat} {t : TL} (h : Tn j t) (hjk : j ≤ k) : Tn k t := ⟨h.a.mono hjk, h.b.mono hjk, h.c.mono hjk⟩
def m0 : M3 := ⟨0, 0, 0⟩
end Go.K
namespace Go.K.S
open Go Go.K
end Go.K.S
end
section
namespace Go.K
open Go
end Go.K
namespace Go.K.S
open Go Go.K
end Go.K.S
end
section
namespace Go.K
open Go
def CD (D N : Nat) (q : Rat) : Prop := ∃ x : Int, q * (D : Rat) = (x : Rat) ∧ x.natAbs ≤ N
structure CV (D N : Nat) (v : V3) : Prop where
 x : CD D N v.x
 y : CD D N v.y
 z : CD D N v.z
theorem CD.mono {D N M : Nat} {q : Rat} (h : CD D N q) (hn : N ≤ M) : CD D M q := by
 obtain ⟨x, h1, h2⟩ := h; exact ⟨x, h1, Nat.le_trans h2 hn⟩
theorem CV.mono {D N M : Nat} {v : V3} (h : CV D N v) (hn : N ≤ M) : CV D M v := ⟨h.x.mono hn, h.y.mono hn, h.z.mono hn⟩
theorem CD.add {D N M : Nat} {p q : Rat} (hp : CD D N p) (hq : CD D M q) : CD D (N + M) (p + q) := by
 obtain ⟨x, h1, h2⟩ := hp
 obtain ⟨y, h3, h4⟩ := hq
 refine ⟨x + y, ?_, Nat.le_trans (Int.natAbs_add_le x y) (by omega)⟩
 rw [Rat.add_mul, h1, h3, Rat.intCast_add]
theorem CD.neg {D N : Nat} {p : Rat} (hp : CD D N p) : CD D N (-p) := by
 obtain ⟨x, h1, h2⟩ := hp
 refine ⟨-x, ?_, by rw [Int.natAbs_neg]; exact h2⟩
 rw [Rat.neg_mul, h1, Rat.intCast_neg]
theorem CD.sub {D N M : Nat} {p q : Rat} (hp : CD D N p) (hq : CD D M q) : CD D (N + M) (p - q) := by
 rw [Rat.sub_eq_add_neg]; exact hp.add hq.neg
theorem CD.mul {D N E M : Nat} {p q : Rat} (hp : CD D N p) (hq : CD E M q) : CD (D * E) (N * M) (p * q) := by
 obtain ⟨x, h1, h2⟩ := hp
 obtain ⟨y, h3, h4⟩ := hq
 refine ⟨x * y, ?_, by rw [Int.natAbs_mul]; exact Nat.mul_le_mul h2 h4⟩
 rw [Rat.natCast_mul, Rat.intCast_mul, ← h1, ← h3]
 grind
theorem CD.up {D N : Nat} {p : Rat} (E : Nat) (hp : CD D N p) : CD (D * E) (N * E) p := by
 obtain ⟨x, h1, h2⟩ := hp
 refine ⟨x * E, ?_, by rw [Int.natAbs_mul, Int.natAbs_natCast]; exact Nat.mul_le_mul_right _ h2⟩
 rw [Rat.natCast_mul, Rat.intCast_mul, ← h1]
 have : ((E : Int) : Rat) = (E : Rat) := rfl
 rw [this]
 grind
theorem CD.up' {D N : Nat} {p : Rat} (E : Nat) (hp : CD D N p) : CD (E * D) (E * N) p := by
 rw [Nat.mul_comm E D, Nat.mul_comm E N]; exact hp.up E
theorem CD.of {k : Nat} {q : Rat} (h : Qn k q) : ∃ D : Nat, 0 < D ∧ D ≤ 4294967296 ^ k ∧ CD D (4294967296 ^ k) q :=
 ⟨q.den, q.den_pos, Nat.le_of_lt h.d, q.num, (by
  have e : (q.num : Rat) / (q.den : Rat) = q := by rw [← Rat.mkRat_eq_div, Rat.mkRat_self]
  have hd : (q.den : Rat) ≠ 0 := by
   intro e
   have e' : ((q.den : Int) : Rat) = ((0 : Int) : Rat) := e
   have := Rat.intCast_inj.1 e'
   have := q.den_pos
   omega
  have h2 : q * (q.den : Rat) = (q.num : Rat) / (q.den : Rat) * (q.den : Rat) := by rw [e]
  rw [h2]; grind), Nat.le_of_lt h.n⟩
theorem CD.size {D N k : Nat} {q : Rat} (h : CD D N q) (hD : 0 < D) (h1 : D < 4294967296 ^ k) (h2 : N < 4294967296 ^ k) (hk : 0 < k) : Qn k q := by
 obtain ⟨x, h3, h4⟩ := h
 have hD' : (D : Rat) ≠ 0 := by
  intro e
  have : ((D : Int) : Rat) = ((0 : Int) : Rat) := e
  have := Rat.intCast_inj.1 this
  omega
 have e : q = mkRat x D := by
  rw [Rat.mkRat_eq_div, ← h3]
  have : ((D : Int) : Rat) = (D : Rat) := rfl
  grind
 rw [e]
 exact Qn_mk (by omega) h1 hk
theorem CV.add {D N M : Nat} {u v : V3} (hu : CV D N u) (hv : CV D M v) : CV D (N + M) (vadd u v) := ⟨hu.x.add hv.x, hu.y.add hv.y, hu.z.add hv.z⟩
theorem CV.sub {D N M : Nat} {u v : V3} (hu : CV D N u) (hv : CV D M v) : CV D (N + M) (vsub u v) := ⟨hu.x.sub hv.x, hu.y.sub hv.y, hu.z.sub hv.z⟩
theorem CV.up {D N : Nat} {v : V3} (E : Nat) (h : CV D N v) : CV (D * E) (N * E) v := ⟨h.x.up E, h.y.up E, h.z.up E⟩
theorem CV.up' {D N : Nat} {v : V3} (E : Nat) (h : CV D N v) : CV (E * D) (E * N) v := ⟨h.x.up' E, h.y.up' E, h.z.up' E⟩
theorem CV.cross {D N E M : Nat} {u v : V3} (hu : CV D N u) (hv : CV E M v) : CV (D * E) (2 * (N * M)) (vcross u v) :=
 ⟨((hu.y.mul hv.z).sub (hu.z.mul hv.y)).mono (by omega), ((hu.z.mul hv.x).sub (hu.x.mul hv.z)).mono (by omega), ((hu.x.mul hv.y).sub (hu.y.mul hv.x)).mono (by omega)⟩
theorem CV.of {k : Nat} {v : V3} (h : Pn k v) : ∃ D : Nat, 0 < D ∧ D ≤ 4294967296 ^ (3 * k) ∧ CV D (4294967296 ^ (3 * k)) v := by
 obtain ⟨d1, p1, q1, c1⟩ := CD.of h.x
 obtain ⟨d2, p2, q2, c2⟩ := CD.of h.y
 obtain ⟨d3, p3, q3, c3⟩ := CD.of h.z
 have e : 4294967296 ^ (3 * k) = 4294967296 ^ k * 4294967296 ^ k * 4294967296 ^ k := by rw [← Nat.pow_add, ← Nat.pow_add]; congr 1; omega
 refine ⟨d1 * d2 * d3, Nat.mul_pos (Nat.mul_pos p1 p2) p3, ?_, ?_⟩
 ·rw [e]; exact Nat.mul_le_mul (Nat.mul_le_mul q1 q2) q3
 ·rw [e]
  refine ⟨((c1.up d2).up d3).mono (Nat.mul_le_mul (Nat.mul_le_mul_left _ q2) q3), ?_, ?_⟩
  ·have := (c2.up' d1).up d3
   exact this.mono (Nat.mul_le_mul (Nat.mul_le_mul_right _ q1) q3)
  ·have := c3.up' (d1 * d2)
   exact this.mono (Nat.mul_le_mul_right _ (Nat.mul_le_mul q1 q2))
end Go.K
end
section
namespace Go.K
open Go
structure M4 where
 x : V3
 y : V3
 z : V3
 move : V3
structure MapL where
 x : VL
 y : VL
 z : VL
 move : VL
def mv (m : MapL) : M4 := ⟨vv m.x, vv m.y, vv m.z, vv m.move⟩
theorem M4.ext_iff' {a b : M4} : a = b ↔ a.x = b.x ∧ a.y = b.y ∧ a.z = b.z ∧ a.move = b.move := by
 cases a; cases b; simp
def e1 : V3 := ⟨1, 0, 0⟩
def e2 : V3 := ⟨0, 1, 0⟩
def e3 : V3 := ⟨0, 0, 1⟩
end Go.K
namespace Go.K
end Go.K
end
section
namespace Go.K
open Go
structure MatL where
 kind : Int
 vals : List RL
 a : RL
 b : RL
structure FaceL where
 tri : TL
 mat : Int
structure ScL where
 waves : List RL
 mats : List MatL
 faces : List FaceL
 eye : VL
 look : VL
 w : Int
 h : Int
 half : RL
def dMat (Ψ : (t : Sd) → STy t) (m : MatL) : List D := .i .i64 m.kind :: .sl (Ψ .dRs m.vals) :: (dR Ψ m.a ++ dR Ψ m.b)
def dFace (Ψ : (t : Sd) → STy t) (f : FaceL) : List D := dT Ψ f.tri ++ [.i .i64 f.mat]
structure Mtn (k : Nat) (m : MatL) : Prop where
 k1 : -9223372036854775808 ≤ m.kind
 k2 : m.kind ≤ 9223372036854775807
 l : m.vals.length ≤ k
 v : ∀ r, r ∈ m.vals → Rn k r
 a : Rn k m.a
 b : Rn k m.b
structure Fcn (k : Nat) (f : FaceL) : Prop where
 k1 : -9223372036854775808 ≤ f.mat
 k2 : f.mat ≤ 9223372036854775807
 t : Tn k f.tri
structure Scn (k : Nat) (s : ScL) : Prop where
 w1 : -9223372036854775808 ≤ s.w
 w2 : s.w ≤ 9223372036854775807
 h1 : -9223372036854775808 ≤ s.h
 h2 : s.h ≤ 9223372036854775807
 wl : s.waves.length ≤ k
 wv : ∀ r, r ∈ s.waves → Rn k r
 ml : s.mats.length ≤ k
 mv : ∀ m, m ∈ s.mats → Mtn k m
 fl : s.faces.length ≤ k
 fv : ∀ f, f ∈ s.faces → Fcn k f
 e : Vn k s.eye
 l : Vn k s.look
 hf : Rn k s.half
end Go.K
end
section
namespace Go.K
open Go
end Go.K
namespace Go.K.S
open Go Go.K
end Go.K.S
end
section
namespace Go.K
open Go
end Go.K
namespace Go.K.S
open Go Go.K
theorem check3_good (r : RL) {k : Nat} (h : Rn k r) (hk0 : 0 < k) (hk : k < 137438953472) : Good P F.penumbraref03_Check [.d (.agg (dR Ψ r))] [] (.d (.b (decide (r = Ψ .cr (rv r))))) [] := by
 refine G.penumbraref03_Check fun C C2 hC hC2 => ?_
 have g1 := read3_good r h hk
 have g2 := is3_good (Ψ .cr (rv r)) r (Rn_cr.2 (Qn_rv h hk0)) h (by omega) (by omega)
 have e : decide (Ψ .cr (rv r) = r) = decide (r = Ψ .cr (rv r)) := decide_eq_decide.2 ⟨fun h => h.symm, fun h => h.symm⟩
 rw [e] at g2
 generalize decide (r = Ψ .cr (rv r)) = R at *
 exact rq trivial
end Go.K.S
end
section
namespace Go.K
open Go
structure ScD (s : ScL) (MD FD : List D) : Prop where
 m : ∀ (i : Nat) m, s.mats[i]? = some m → Ω .sget MD i = some (.agg (dMat Ψ m))
 ml : Ω .slen MD = s.mats.length
 f : ∀ (i : Nat) f, s.faces[i]? = some f → Ω .sget FD i = some (.agg (dFace Ψ f))
 fl : Ω .slen FD = s.faces.length
theorem hx_dRs {l : List RL} {i : Nat} {r : RL} (h : l[i]? = some r) : Ω .sget (Ψ .dRs l) i = some (.agg (dR Ψ r)) := by rw [sget_dRs, h]; rfl
end Go.K
namespace Go.K.S
open Go Go.K
end Go.K.S
end
section
namespace Go.K
open Go
end Go.K
namespace Go.K.S
open Go Go.K
end Go.K.S
end
