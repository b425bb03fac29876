/-
  Parts of the proof, joined by a program of this work: KRatP, KRatQ, KRef, KRefAdd, KRefMul, KRefDouble, KRefDiv, KVecs.
-/
import Derived.Test.YtlolgojfeijjhaaGreatDoorQal
import Derived.Test.YtlolgojfeijjhaaGreatDoorQak
set_option linter.unusedSimpArgs false
set_option linter.unusedVariables false
set_option maxHeartbeats 8000000
set_option maxRecDepth 20000
section
namespace Go.K.S
open Go Go.K
theorem times_good (p q : Rat) {j k : Nat} (hp : Qn j p) (hq : Qn k q) (hj : 0 < j) (hk : 0 < k) (hj2 : j < 68719476736) (hk2 : k < 68719476736) :
  Good P F.rat_times [.d (.agg (dR Ψ (Ψ .cr p))), .d (.agg (dR Ψ (Ψ .cr q)))] [] (.d (.agg (dR Ψ (Ψ .cr (p * q))))) [] := by
 refine G.rat_times fun C C2 hC hC2 => ?_
 have rp := Rn_cr.2 hp
 have rq := Rn_cr.2 hq
 obtain ⟨R, hR⟩ : ∃ R, R = Ψ .cr (p * q) := ⟨_, rfl⟩
 rw [← hR]
 by_cases hp0 : p = 0
 ·have : R = ⟨false, [], [1]⟩ := by rw [hR, hp0, Rat.zero_mul, cr_zero]
  subst this
  rw [hp0, cr_zero]
  refine nx ?_
  refine BrG.split (fun h => ?_) (fun h => by have := h; simp [wz] at this)
  refine nx ?_
  refine ⟨_, hC _ _ _ one_good, ?_⟩
  refine nx ?_
  rfl
 by_cases hq0 : q = 0
 ·have : R = ⟨false, [], [1]⟩ := by rw [hR, hq0, Rat.mul_zero, cr_zero]
  subst this
  have hnp : (Ψ .cr p).num.length ≠ 0 := fun c => hp0 (cr_num_nil.1 (List.eq_nil_of_length_eq_zero c))
  rw [hq0, cr_zero]
  generalize Ψ .cr p = a at *
  obtain ⟨b, x, y⟩ := a
  refine nx ?_
  refine BrG.split (fun h => ?_) (fun h => ?_)
  ·exfalso
   simp only at hnp
   have : x.length = 0 := by have := h; simp only [wz] at this ⊢; omega
   exact hnp this
  refine nx ?_
  refine BrG.split (fun h => ?_) (fun h => by have := h; simp [wz] at this)
  refine nx ?_
  refine ⟨_, hC _ _ _ one_good, ?_⟩
  refine nx ?_
  rfl
 have hnp : (Ψ .cr p).num.length ≠ 0 := fun c => hp0 (cr_num_nil.1 (List.eq_nil_of_length_eq_zero c))
 have hnq : (Ψ .cr q).num.length ≠ 0 := fun c => hq0 (cr_num_nil.1 (List.eq_nil_of_length_eq_zero c))
 have hmul := cr_mul hp0 hq0
 rw [← hR] at hmul
 have hpn : p.num.natAbs ≠ 0 := by simpa using hp0
 have hqn : q.num.natAbs ≠ 0 := by simpa using hq0
 have g1 := made_good (Ψ .cr p).neg (Ψ .cr p).num (Ψ .cr q).den (rp.N1 (by omega)) (rq.N2 (by omega)) (by have := rp.kn; omega) (by have := rq.kd; omega)
 have g2 := made_good (Ψ .cr q).neg (Ψ .cr q).num (Ψ .cr p).den (rq.N1 (by omega)) (rp.N2 (by omega)) (by have := rq.kn; omega) (by have := rp.kd; omega)
 have e1 : (Ψ .cr p).num = Ψ .cn p.num.natAbs := rfl
 have e2 : (Ψ .cr p).den = Ψ .cn p.den := rfl
 have e3 : (Ψ .cr q).num = Ψ .cn q.num.natAbs := rfl
 have e4 : (Ψ .cr q).den = Ψ .cn q.den := rfl
 rw [e1, e4, nv_cn, nv_cn, cr_mk hpn q.den_nz] at g1
 rw [e3, e2, nv_cn, nv_cn, cr_mk hqn p.den_nz] at g2
 have b1 : p.num.natAbs / p.num.natAbs.gcd q.den < 4294967296 ^ j := Nat.lt_of_le_of_lt (Nat.div_le_self _ _) hp.n
 have b2 : q.den / p.num.natAbs.gcd q.den < 4294967296 ^ k := Nat.lt_of_le_of_lt (Nat.div_le_self _ _) hq.d
 have b3 : q.num.natAbs / q.num.natAbs.gcd p.den < 4294967296 ^ k := Nat.lt_of_le_of_lt (Nat.div_le_self _ _) hq.n
 have b4 : p.den / q.num.natAbs.gcd p.den < 4294967296 ^ j := Nat.lt_of_le_of_lt (Nat.div_le_self _ _) hp.d
 have m1 := mul_good (Ψ .cn (p.num.natAbs / p.num.natAbs.gcd q.den)) (Ψ .cn (q.num.natAbs / q.num.natAbs.gcd p.den)) (N_cn b1 (by omega)) (N_cn b3 (by omega)) (by have := len_cn.2 b1; omega) (by have := len_cn.2 b3; omega)
 have m2 := mul_good (Ψ .cn (q.den / p.num.natAbs.gcd q.den)) (Ψ .cn (p.den / q.num.natAbs.gcd p.den)) (N_cn b2 (by omega)) (N_cn b4 (by omega)) (by have := len_cn.2 b2; omega) (by have := len_cn.2 b4; omega)
 rw [nv_cn, nv_cn] at m1 m2
 rw [← e1, ← e4] at g1
 rw [← e3, ← e2] at g2
 generalize p.num.natAbs / p.num.natAbs.gcd q.den = v1 at *
 generalize q.den / p.num.natAbs.gcd q.den = v2 at *
 generalize q.num.natAbs / q.num.natAbs.gcd p.den = v3 at *
 generalize p.den / q.num.natAbs.gcd p.den = v4 at *
 generalize v1 * v3 = w1 at *
 generalize v2 * v4 = w2 at *
 clear e1 e2 e3 e4 rp rq
 generalize Ψ .cr p = a at *
 generalize Ψ .cr q = b at *
 obtain ⟨s, x, y⟩ := a
 obtain ⟨s', x', y'⟩ := b
 simp only at *
 subst hmul
 refine nx ?_
 refine BrG.split (fun h => ?_) (fun h => ?_)
 ·exfalso
  have : x.length = 0 := by have := h; simp only [wz] at this ⊢; omega
  exact hnp this
 refine nx ?_
 refine BrG.split (fun h => ?_) (fun h => ?_)
 ·exfalso
  have : x'.length = 0 := by have := h; simp only [wz] at this ⊢; omega
  exact hnq this
 refine nx ?_
 refine ⟨_, hC _ _ _ g1, ?_⟩
 refine nx ?_
 refine ⟨_, hC _ _ _ g2, ?_⟩
 cases s <;> cases s'
 all_goals
  refine nx ?_
  refine ⟨_, hC _ _ _ m1, ?_⟩
  refine nx ?_
  refine ⟨_, hC _ _ _ m2, ?_⟩
  exact nx trivial
theorem sum_good (l : List RL) {k : Nat} (hl : ∀ r, r ∈ l → Rn k r) (hk : 0 < k) (hs : (l.length + 1) * (k + 1) < 68719476736) :
  Good P F.rat_Sum [.d (.sl (Ψ .dRs l))] [] (.d (.agg (dR Ψ (Ψ .cr (rsum l))))) [] := by
 refine G.rat_Sum fun C C2 hC hC2 => ?_
 have hln : l.length < 68719476736 := by
  have := Nat.le_mul_of_pos_right (l.length + 1) (show 0 < k + 1 by omega)
  omega
 have hq : ∀ i, i ≤ l.length → Qn (i * (k + 1) + 1) (rsum (l.take i)) := fun i => by
  induction i with
  | zero => intro _; exact Qn_zero (by omega)
  | succ i ih =>
   intro hi
   obtain ⟨r, hr⟩ : ∃ r, l[i]? = some r := ⟨_, List.getElem?_eq_getElem (by omega)⟩
   rw [take_succ_of hr, rsum_snoc]
   refine (Qn_add (ih (by omega)) (Qn_rv (hl r (List.mem_of_getElem? hr)) hk)).mono ?_
   rw [Nat.add_mul]; omega
 have hbd : ∀ i, i ≤ l.length → i * (k + 1) + 1 < 68719476736 := fun i hi => by
  have := Nat.mul_le_mul_right (k + 1) hi
  rw [Nat.add_mul] at hs
  omega
 have hst : ∀ i r, l[i]? = some r → rsum (l.take (i + 1)) = rsum (l.take i) + rv r := fun i r hr => by rw [take_succ_of hr, rsum_snoc]
 have hlast : rsum (l.take l.length) = rsum l := by rw [List.take_length]
 have hz : rsum (l.take 0) = 0 := rfl
 obtain ⟨R0, hR0⟩ : ∃ R, R = rsum l := ⟨_, rfl⟩
 rw [← hR0] at hlast ⊢
 obtain ⟨S, hS⟩ : ∃ S : Nat → Rat, S = fun i => rsum (l.take i) := ⟨_, rfl⟩
 have hSe : ∀ i, rsum (l.take i) = S i := fun i => by rw [hS]
 simp only [hSe] at hq hst hlast hz
 clear hSe hS
 refine nx ?_
 refine ⟨_, hC _ _ _ one_good, ?_⟩
 refine nx ?_
 refine LoopG.intro (σ := Nat) [2, 3, 8, 9, 10] [1050, 1051]
   (fun i => [.ptr 1050 0, .ptr 1051 0, .d (.sl (Ψ .dRs l)), .d (.i .i64 (Ω .ci l.length)), .d (.i .i64 (Ω .ci i))])
   (fun i => [.var [.d (.b false), .nil, .nil], match i with | 0 => .var [.d (.b false), .nil, .d (.sl (Ψ .lims [1]))] | i + 1 => .var ((dR Ψ (Ψ .cr (S (i + 1)))).map V.d)])
   (fun i => i ≤ l.length)
   (fun i => l.length - i) 0 [1000, 1102] (Nat.zero_le _) ⟨rfl, rfl, rfl⟩ ?_
 rintro (_ | i) hi
 ·refine nx ?_
  refine BrG.split (fun h => ?_) (fun h => ?_)
  ·have hlen : 0 < l.length := by have := h; simp only [wz] at this; omega
   obtain ⟨r, hr⟩ : ∃ r, l[0]? = some r := ⟨_, List.getElem?_eq_getElem hlen⟩
   have g := read_good r (hl r (List.mem_of_getElem? hr)) (by have := hbd 1 hlen; omega)
   have e : S 1 = rv r := by rw [hst 0 r hr, hz, Rat.zero_add]
   rw [← e] at g
   refine nx ?_
   refine ⟨Int.le_refl _, (idx_dRs 0 r rfl hr rfl ?_).2⟩
   refine nx ?_
   refine BrG.split (fun h => ?_) (fun h => by have := h; simp [wz] at this)
   refine nx ?_
   refine ⟨_, hC _ _ _ g, ?_⟩
   refine nx ?_
   refine ⟨1, [1050, 1051], hlen, by omega, rfl, ?_, rfl⟩
   refine Eq.trans (b := [.ptr 1050 0, .ptr 1051 0, .d (.sl (Ψ .dRs l)), .d (.i .i64 (Ω .ci l.length)), .d (.i .i64 _)]) rfl ?_
   rw [wrap_succ (by omega)]
  ·have hlen : l.length = 0 := by
    have := h; simp only [wz] at this
    omega
   rw [hlen, hz] at hlast
   subst hlast
   refine nx ?_
   rw [cr_zero]
   rfl
 ·have q := hq (i + 1) hi
  have hb := hbd (i + 1) hi
  refine nx ?_
  refine BrG.split (fun h => ?_) (fun h => ?_)
  ·have hlen : i + 1 < l.length := by have := h; simp only [wz] at this; omega
   obtain ⟨r, hr⟩ : ∃ r, l[i + 1]? = some r := ⟨_, List.getElem?_eq_getElem hlen⟩
   have hb2 := hbd (i + 2) hlen
   have g := plus_good (Ψ .cr (S (i + 1))) r (Rn_cr.2 q) (hl r (List.mem_of_getElem? hr)) (by omega) hk hb (by rw [Nat.add_mul] at hb2; omega)
   rw [rv_cr, ← hst _ r hr] at g
   refine nx ?_
   refine idx_dRs (i + 1) r rfl hr rfl ?_
   refine nx ?_
   refine BrG.split (fun h => ?_) (fun h => ?_)
   ·exfalso
    simp [wz] at h
    first | omega | (have := of_decide_eq_true h; omega)
   refine nx ?_
   refine ⟨_, hC _ _ _ g, ?_⟩
   refine nx ?_
   refine ⟨i + 1 + 1, [1050, 1051], hlen, by omega, rfl, ?_, rfl⟩
   refine Eq.trans (b := [.ptr 1050 0, .ptr 1051 0, .d (.sl (Ψ .dRs l)), .d (.i .i64 (Ω .ci l.length)), .d (.i .i64 _)]) rfl ?_
   rw [wrap_succ (by omega)]
  ·have hlen : i + 1 = l.length := by have := h; simp only [wz] at this; omega
   rw [← hlen] at hlast
   subst hlast
   exact nx trivial
theorem product_good (l : List RL) {k : Nat} (hl : ∀ r, r ∈ l → Rn k r) (hk : 0 < k) (hs : (l.length + 1) * (k + 1) < 68719476736) :
  Good P F.rat_Product [.d (.sl (Ψ .dRs l))] [] (.d (.agg (dR Ψ (Ψ .cr (rprod l))))) [] := by
 refine G.rat_Product fun C C2 hC hC2 => ?_
 have hln : l.length < 68719476736 := by
  have := Nat.le_mul_of_pos_right (l.length + 1) (show 0 < k + 1 by omega)
  omega
 have hq : ∀ i, i ≤ l.length → Qn (i * (k + 1) + 1) (rprod (l.take i)) := fun i => by
  induction i with
  | zero => intro _; exact Qn_one (by omega)
  | succ i ih =>
   intro hi
   obtain ⟨r, hr⟩ : ∃ r, l[i]? = some r := ⟨_, List.getElem?_eq_getElem (by omega)⟩
   rw [take_succ_of hr, rprod_snoc]
   refine (Qn_mul (ih (by omega)) (Qn_rv (hl r (List.mem_of_getElem? hr)) hk) (by omega)).mono ?_
   rw [Nat.add_mul]; omega
 have hbd : ∀ i, i ≤ l.length → i * (k + 1) + 1 < 68719476736 := fun i hi => by
  have := Nat.mul_le_mul_right (k + 1) hi
  rw [Nat.add_mul] at hs
  omega
 have hst : ∀ i r, l[i]? = some r → rprod (l.take (i + 1)) = rprod (l.take i) * rv r := fun i r hr => by rw [take_succ_of hr, rprod_snoc]
 have hlast : rprod (l.take l.length) = rprod l := by rw [List.take_length]
 have hz : rprod (l.take 0) = 1 := rfl
 obtain ⟨R0, hR0⟩ : ∃ R, R = rprod l := ⟨_, rfl⟩
 rw [← hR0] at hlast ⊢
 obtain ⟨S, hS⟩ : ∃ S : Nat → Rat, S = fun i => rprod (l.take i) := ⟨_, rfl⟩
 have hSe : ∀ i, rprod (l.take i) = S i := fun i => by rw [hS]
 simp only [hSe] at hq hst hlast hz
 clear hSe hS
 refine nx ?_
 refine ⟨_, hC _ _ _ one_good, ?_⟩
 refine nx ?_
 refine ⟨_, hC _ _ _ one_good, ?_⟩
 refine nx ?_
 refine LoopG.intro (σ := Nat) [2, 3, 9, 10, 11] [1050, 1051]
   (fun i => [.ptr 1050 0, .ptr 1051 0, .d (.sl (Ψ .dRs l)), .d (.i .i64 (Ω .ci l.length)), .d (.i .i64 (Ω .ci i))])
   (fun i => [.var [.d (.b false), .nil, .nil], .var ((dR Ψ (Ψ .cr (S i))).map V.d)])
   (fun i => i ≤ l.length)
   (fun i => l.length - i) 0 [1000, 1103] (Nat.zero_le _) ⟨rfl, rfl, ?_⟩ ?_
 ·rw [hz, cr_one]
  rfl
 intro i hi
 have q := hq i hi
 have hb := hbd i hi
 refine nx ?_
 refine BrG.split (fun h => ?_) (fun h => ?_)
 ·have hlen : i < l.length := by have := h; simp only [wz] at this; omega
  obtain ⟨r, hr⟩ : ∃ r, l[i]? = some r := ⟨_, List.getElem?_eq_getElem hlen⟩
  have hb2 := hbd (i + 1) hlen
  have hrn := hl r (List.mem_of_getElem? hr)
  have g1 := read_good r hrn (by rw [Nat.add_mul] at hb2; omega)
  have g := times_good (S i) (rv r) q (Qn_rv hrn hk) (by omega) hk hb (by rw [Nat.add_mul] at hb2; omega)
  rw [← hst _ r hr] at g
  refine nx ?_
  refine idx_dRs i r rfl hr rfl ?_
  refine nx ?_
  refine ⟨_, hC _ _ _ g1, ?_⟩
  refine nx ?_
  refine ⟨_, hC _ _ _ g, ?_⟩
  refine nx ?_
  refine ⟨i + 1, [1050, 1051], hlen, by omega, rfl, ?_, rfl⟩
  refine Eq.trans (b := [.ptr 1050 0, .ptr 1051 0, .d (.sl (Ψ .dRs l)), .d (.i .i64 (Ω .ci l.length)), .d (.i .i64 _)]) rfl ?_
  rw [wrap_succ (by omega)]
 ·have hlen : i = l.length := by have := h; simp only [wz] at this; omega
  rw [← hlen] at hlast
  subst hlast
  exact nx trivial
theorem sign_good (r : RL) {k : Nat} (h : Rn k r) (hk : k < 549755813888) : Good P F.rat_Sign [.d (.agg (dR Ψ r))] [] (.d (.i .i64 (Ψ .sI (rv r)))) [] := by
 refine G.rat_Sign fun C C2 hC hC2 => ?_
 have g1 := bits_good r.num (h.N1 (by omega))
 have g2 := bits_good r.den (h.N2 (by omega))
 have z := @rv_zero_iff r
 have hs := @sI_rv r
 rw [← bl_eq_zero (n := nv r.num), ← bl_eq_zero (n := nv r.den)] at z
 simp only [ne_eq, ← bl_eq_zero (n := nv r.num), ← bl_eq_zero (n := nv r.den)] at hs
 have h0 := @sI_zero (rv r)
 rw [z] at h0
 obtain ⟨R, hR⟩ : ∃ R, R = Ψ .sI (rv r) := ⟨_, rfl⟩
 rw [← hR] at hs h0 ⊢
 generalize bl (nv r.num) = m at *
 generalize bl (nv r.den) = n at *
 obtain ⟨s, x, y⟩ := r
 simp only at *
 refine nx ?_
 refine ⟨_, hC _ _ _ g1, ?_⟩
 refine nx ?_
 refine BrG.split (fun h => ?_) (fun h => ?_)
 ·have hm : m = 0 := by have := h; simp only [wz] at this ⊢; omega
  have := h0.2 (.inl hm)
  subst this
  exact nx trivial
 ·have hm : m ≠ 0 := by have := h; simp only [wz] at this ⊢; omega
  refine nx ?_
  refine ⟨_, hC _ _ _ g2, ?_⟩
  refine nx ?_
  refine BrG.split (fun h => ?_) (fun h => ?_)
  ·have hm : n = 0 := by have := h; simp only [wz] at this ⊢; omega
   have := h0.2 (.inr hm)
   subst this
   exact nx trivial
  ·have hn : n ≠ 0 := by have := h; simp only [wz] at this ⊢; omega
   have := hs hm hn
   subst this
   cases s
   ·exact nx trivial
   ·exact nx trivial
theorem rcmp_good (a b : RL) {j k : Nat} (ha : Rn j a) (hb : Rn k b) (hj2 : j < 68719476736) (hk2 : k < 68719476736) :
  Good P F.rat_Cmp [.d (.agg (dR Ψ a)), .d (.agg (dR Ψ b))] [] (.d (.i .i64 (Ψ .cI (rv a) (rv b)))) [] := by
 refine G.rat_Cmp fun C C2 hC hC2 => ?_
 have g1 := sign_good a ha (by omega)
 have g2 := sign_good b hb (by omega)
 have m1 := mul_good a.num b.den (ha.N1 (by omega)) (hb.N2 (by omega)) (by have := ha.kn; omega) (by have := hb.kd; omega)
 have m2 := mul_good b.num a.den (hb.N1 (by omega)) (ha.N2 (by omega)) (by have := hb.kn; omega) (by have := ha.kd; omega)
 have b1 : nv a.num * nv b.den < 4294967296 ^ (j + k) := lt_mul_pow (nv_lt_pow ha.ln ha.kn) (nv_lt_pow hb.ld hb.kd)
 have b2 : nv b.num * nv a.den < 4294967296 ^ (j + k) := by rw [Nat.add_comm]; exact lt_mul_pow (nv_lt_pow hb.ln hb.kn) (nv_lt_pow ha.ld ha.kd)
 have g3 := cmp_good (Ψ .cn (nv a.num * nv b.den)) (Ψ .cn (nv b.num * nv a.den)) (N_cn b1 (by omega)) (N_cn b2 (by omega))
 rw [nv_cn, nv_cn] at g3
 have e1 := @cI_sign_ne (rv a) (rv b)
 have e2 := @cI_sign_eq a b
 have l1 := sI_lt (rv a)
 have l2 := cmpI_lt (nv a.num * nv b.den) (nv b.num * nv a.den)
 generalize Ψ .cmpI (nv a.num * nv b.den) (nv b.num * nv a.den) = c at *
 generalize nv a.num * nv b.den = u at *
 generalize nv b.num * nv a.den = v at *
 generalize Ψ .sI (rv a) = s at *
 generalize Ψ .sI (rv b) = t at *
 obtain ⟨R, hR⟩ : ∃ R, R = Ψ .cI (rv a) (rv b) := ⟨_, rfl⟩
 rw [← hR] at e1 e2 ⊢
 clear hR
 obtain ⟨sa, xa, ya⟩ := a
 obtain ⟨sb, xb, yb⟩ := b
 simp only at *
 refine nx ?_
 refine ⟨_, hC _ _ _ g1, ?_⟩
 refine nx ?_
 refine ⟨_, hC _ _ _ g2, ?_⟩
 refine nx ?_
 refine BrG.split (fun h => ?_) (fun h => ?_)
 ·have hne : s ≠ t := by have := h; simp only [wz] at this ⊢; omega
  have := e1 hne
  refine nx ?_
  refine BrG.split (fun h => ?_) (fun h => ?_)
  ·rw [if_pos (by have := h; simp only [wz] at this; exact this)] at this
   subst this
   exact nx trivial
  ·rw [if_neg (by have := h; simp only [wz] at this; omega)] at this
   subst this
   exact nx trivial
 ·have he : s = t := by have := h; simp only [wz] at this ⊢; omega
  have hRc := e2 he
  refine nx ?_
  refine ⟨_, hC _ _ _ m1, ?_⟩
  refine nx ?_
  refine ⟨_, hC _ _ _ m2, ?_⟩
  refine nx ?_
  refine ⟨_, hC _ _ _ g3, ?_⟩
  refine nx ?_
  have : Ω .wrap .i64 (s * c) = s * c := by
   have h1 : s = -1 ∨ s = 0 ∨ s = 1 := by omega
   have h2 : c = -1 ∨ c = 0 ∨ c = 1 := by omega
   rcases h1 with rfl | rfl | rfl <;> rcases h2 with rfl | rfl | rfl <;> rfl
  rw [this, ← hRc]
end Go.K.S
end
section
namespace Go.K
open Go
theorem of_mk (n d : Int) : mkRat (sg (decide (n < 0) != decide (d < 0)) n.natAbs) d.natAbs = (n : Rat) / (d : Rat) := by
 rw [Rat.mkRat_eq_div]
 have key : ∀ m : Int, (m : Rat) = if m < 0 then -((m.natAbs : Nat) : Rat) else ((m.natAbs : Nat) : Rat) := fun m => by
  by_cases h : m < 0
  ·rw [if_pos h]
   have : m = -((m.natAbs : Nat) : Int) := by omega
   conv => lhs; rw [this]
   push_cast
   rfl
  ·rw [if_neg h]
   have : m = ((m.natAbs : Nat) : Int) := by omega
   conv => lhs; rw [this]
   push_cast
   rfl
 have c : ∀ u : Nat, (((u : Int)) : Rat) = (u : Rat) := fun u => by push_cast; rfl
 have cneg : ∀ u : Nat, ((-(u : Int) : Int) : Rat) = -(u : Rat) := fun u => by push_cast; rfl
 rw [key n, key d]
 generalize n.natAbs = u
 generalize d.natAbs = v
 have e1 : (u : Rat) / (v : Rat) = -(u : Rat) / -(v : Rat) := by
  by_cases h : (v : Rat) = 0
  ·rw [h]; simp [Rat.div_def]
  ·grind
 have e2 : -(u : Rat) / (v : Rat) = (u : Rat) / -(v : Rat) := by
  by_cases h : (v : Rat) = 0
  ·rw [h]; simp [Rat.div_def]
  ·grind
 by_cases h1 : n < 0 <;> by_cases h2 : d < 0 <;> simp only [h1, h2, decide_true, decide_false, bne_self_eq_false, if_true, if_false, sg, Bool.false_eq_true, c]
 ·exact e1
 ·exact cneg u ▸ rfl
 ·exact (cneg u ▸ e2)
end Go.K
namespace Go.K.S
open Go Go.K
theorem size_good (n : Int) (h1 : -9223372036854775808 ≤ n) (h2 : n ≤ 9223372036854775807) : Good P F.rat_size [.d (.i .i64 n)] [] (.d (dN Ψ (Ψ .cn n.natAbs))) [] := by
 refine G.rat_size fun C C2 hC hC2 => ?_
 have g := of_good n.natAbs (by omega)
 obtain ⟨m, hm⟩ : ∃ m, m = n.natAbs := ⟨_, rfl⟩
 rw [← hm] at g ⊢
 refine nx ?_
 refine BrG.split (fun h => ?_) (fun h => ?_)
 ·have h0 := of_decide_eq_true h
  have e : Ω .wrap .u64 (0 - Ω .wrap .u64 n) = Ω .ci m := by
   rw [wrapu64, wrapu64]; simp only [wz]; omega
  refine nx ?_
  rw [e]
  refine ⟨_, hC _ _ _ g, ?_⟩
  exact nx trivial
 ·have h0 := of_decide_eq_false h
  have e : Ω .wrap .u64 n = Ω .ci m := by
   rw [wrapu64]; simp only [wz]; omega
  refine nx ?_
  rw [e]
  refine ⟨_, hC _ _ _ g, ?_⟩
  exact nx trivial
theorem rof_good (n d : Int) (h1 : -9223372036854775808 ≤ n) (h2 : n ≤ 9223372036854775807) (h3 : -9223372036854775808 ≤ d) (h4 : d ≤ 9223372036854775807) :
  Good P F.rat_Of [.d (.i .i64 n), .d (.i .i64 d)] [] (.d (.agg (dR Ψ (Ψ .cr ((n : Rat) / (d : Rat)))))) [] := by
 refine G.rat_Of fun C C2 hC hC2 => ?_
 have g1 := size_good n h1 h2
 have g2 := size_good d h3 h4
 have b1 : n.natAbs < 4294967296 ^ 2 := by omega
 have b2 : d.natAbs < 4294967296 ^ 2 := by omega
 have g3 := made_good (decide (n < 0) != decide (d < 0)) (Ψ .cn n.natAbs) (Ψ .cn d.natAbs) (N_cn b1 (by omega)) (N_cn b2 (by omega)) (by have := len_cn.2 b1; omega) (by have := len_cn.2 b2; omega)
 rw [nv_cn, nv_cn, of_mk] at g3
 obtain ⟨R, hR⟩ : ∃ R, R = Ψ .cr ((n : Rat) / (d : Rat)) := ⟨_, rfl⟩
 rw [← hR] at g3 ⊢
 clear hR
 generalize n.natAbs = u at *
 generalize d.natAbs = v at *
 refine nx ?_
 refine BrG.split (fun h => ?_) (fun h => ?_)
 all_goals
  rw [show decide (n < 0) = _ from h] at g3
  refine nx ?_
  refine BrG.split (fun h => ?_) (fun h => ?_)
  all_goals
   rw [show decide (d < 0) = _ from h] at g3
   refine nx ?_
   refine ⟨_, hC _ _ _ g1, ?_⟩
   refine nx ?_
   refine ⟨_, hC _ _ _ g2, ?_⟩
   refine nx ?_
   refine ⟨_, hC _ _ _ g3, ?_⟩
   exact nx trivial
end Go.K.S
end
section
namespace Go.K
end Go.K
namespace Go.K.S
open Go Go.K
theorem same1_good (a b : List Nat) (hal : a.length < 1099511627776) (hbl : b.length < 1099511627776) : Good P F.penumbraref01_Same [.d (dN Ψ a), .d (dN Ψ b)] [] (.d (.b (decide (a = b)))) [] := by
 refine G.penumbraref01_Same fun C C2 hC hC2 => ?_
 generalize hr : decide (a = b) = r
 refine nx ?_
 refine BrG.split (fun h => ?_) (fun h => ?_)
 ·have hne : a.length ≠ b.length := by have := h; simp only [wz] at this ⊢; omega
  have : r = false := by rw [← hr]; exact decide_eq_false (fun q => hne (by rw [q]))
  subst this
  exact nx trivial
 ·have he : a.length = b.length := by have := h; simp only [wz] at this ⊢; omega
  refine nx ?_
  refine LoopG.intro (σ := Nat) [0, 1, 5] [] (fun k => [.d (dN Ψ a), .d (dN Ψ b), .d (.i .i64 (Ω .ci k))]) (fun _ => []) (fun k => k ≤ a.length ∧ a.take k = b.take k) (fun k => a.length - k) 0 []
   ⟨Nat.zero_le _, rfl⟩ ⟨rfl, rfl, rfl⟩ ?_
  rintro k ⟨hk, hd⟩
  refine nx ?_
  refine BrG.split (fun h => ?_) (fun h => ?_)
  ·have hk0 : k < a.length := by have := h; simp only [wz] at this; omega
   obtain ⟨u, hu⟩ : ∃ u, a[k]? = some u := ⟨_, List.getElem?_eq_getElem (by omega)⟩
   obtain ⟨v, hv⟩ : ∃ v, b[k]? = some v := ⟨_, List.getElem?_eq_getElem (by omega)⟩
   refine nx ?_
   refine idx_lims k u rfl hu rfl ?_
   refine nx ?_
   refine idx_lims k v rfl hv rfl ?_
   refine nx ?_
   refine BrG.split (fun h => ?_) (fun h => ?_)
   ·have huv : u ≠ v := by have := h; simp only [wz] at this ⊢; omega
    have : r = false := by
     rw [← hr]
     refine decide_eq_false (fun q => huv ?_)
     rw [q, hv] at hu
     exact (Option.some.inj hu).symm
    subst this
    exact nx trivial
   ·have huv : u = v := by have := h; simp only [wz] at this ⊢; omega
    subst huv
    refine nx ?_
    refine ⟨k + 1, [], ⟨hk0, ?_⟩, by omega, rfl, ?_, rfl⟩
    ·rw [List.take_add_one, List.take_add_one, hd, hu, hv]
    ·refine Eq.trans (b := [V.d (dN Ψ a), V.d (dN Ψ b), V.d (.i .i64 _)]) rfl ?_
     rw [wrap_succ (by omega)]
  ·have hk0 : k = a.length := by have := h; simp only [wz] at this; omega
   subst hk0
   have : r = true := by
    rw [← hr]
    refine decide_eq_true ?_
    rw [List.take_length, he, List.take_length] at hd
    exact hd
   subst this
   exact nx trivial
end Go.K.S
end
section
namespace Go.K
end Go.K
namespace Go.K.S
open Go Go.K
end Go.K.S
end
section
namespace Go.K.S
open Go Go.K
end Go.K.S
end
section
namespace Go.K
end Go.K
namespace Go.K.S
open Go Go.K
end Go.K.S
end
section
namespace Go.K
end Go.K
namespace Go.K.S
open Go Go.K
end Go.K.S
end
section
namespace Go.K
open Go
theorem rsum2 (a b : RL) : rsum [a, b] = rv a + rv b := by simp [rsum, Rat.zero_add]
theorem rprod2 (a b : RL) : rprod [a, b] = rv a * rv b := by simp [rprod, Rat.one_mul]
theorem mem2 {α : Type} {a b x : α} (h : x ∈ [a, b]) : x = a ∨ x = b := by simpa [wz] using h
def vv (v : VL) : V3 := ⟨rv v.x, rv v.y, rv v.z⟩
structure Vn (k : Nat) (v : VL) : Prop where
 x : Rn k v.x
 y : Rn k v.y
 z : Rn k v.z
structure Pn (k : Nat) (p : V3) : Prop where
 x : Qn k p.x
 y : Qn k p.y
 z : Qn k p.z
theorem Vn.mono {j k : Nat} {v : VL} (h : Vn j v) (hjk : j ≤ k) : Vn k v := ⟨h.x.mono hjk, h.y.mono hjk, h.z.mono hjk⟩
theorem Pn.mono {j k : Nat} {v : V3} (h : Pn j v) (hjk : j ≤ k) : Pn k v := ⟨h.x.mono hjk, h.y.mono hjk, h.z.mono hjk⟩
def v0 : V3 := ⟨0, 0, 0⟩
def vadd (p q : V3) : V3 := ⟨p.x + q.x, p.y + q.y, p.z + q.z⟩
def vsub (p q : V3) : V3 := ⟨p.x - q.x, p.y - q.y, p.z - q.z⟩
def vcross (p q : V3) : V3 := ⟨p.y * q.z - p.z * q.y, p.z * q.x - p.x * q.z, p.x * q.y - p.y * q.x⟩
end Go.K
namespace Go.K
open Go
theorem VL.ext_iff' {a b : VL} : a = b ↔ a.x = b.x ∧ a.y = b.y ∧ a.z = b.z := by
 cases a; cases b; simp
theorem RL.ext_iff'' {a b : RL} : a = b ↔ a.neg = b.neg ∧ a.num = b.num ∧ a.den = b.den := by
 cases a; cases b; simp
instance : DecidableEq RL := fun _ _ => decidable_of_iff _ RL.ext_iff''.symm
instance : DecidableEq VL := fun _ _ => decidable_of_iff _ VL.ext_iff'.symm
theorem V3.ext_iff' {a b : V3} : a = b ↔ a.x = b.x ∧ a.y = b.y ∧ a.z = b.z := by
 cases a; cases b; simp
instance : DecidableEq V3 := fun _ _ => decidable_of_iff _ V3.ext_iff'.symm
theorem ML.ext_iff' {a b : ML} : a = b ↔ a.s = b.s ∧ a.u = b.u ∧ a.v = b.v := by
 cases a; cases b; simp
instance : DecidableEq ML := fun _ _ => decidable_of_iff _ ML.ext_iff'.symm
theorem M3.ext_iff' {a b : M3} : a = b ↔ a.s = b.s ∧ a.u = b.u ∧ a.v = b.v := by
 cases a; cases b; simp
structure Mn (k : Nat) (v : ML) : Prop where
 s : Rn k v.s
 u : Rn k v.u
 v : Rn k v.v
end Go.K
end
