/-
  Parts of the proof, joined by a program of this work: KRatP, KRatQ, KRef, KRefAdd, KRefMul, KRefDouble, KRefDiv, KVecs.
-/
import Derived.Test.YtlolgojfeijjhaaGreatDoorPal
import Derived.Test.YtlolgojfeijjhaaGreatDoorPak
set_option linter.unusedSimpArgs false
set_option linter.unusedVariables false
set_option maxHeartbeats 8000000
set_option maxRecDepth 20000
section
namespace Go.K.S
open Go Go.K
theorem times_good (p q : Rat) {j k : Nat} (hp : Qn j p) (hq : Qn k q) (hj : 0 < j) (hk : 0 < k) (hj2 : j < 68719476736) (hk2 : k < 68719476736) :
  Good P F.rat_times [.d (.agg (dR Ψ (Ψ .cr p))), .d (.agg (dR Ψ (Ψ .cr q)))] [] (.d (.agg (dR Ψ (Ψ .cr (p * q))))) [] := by
 refine G.rat_times fun C C2 hC hC2 => ?_
 have rp := Rn_cr.2 hp
 have rq := Rn_cr.2 hq
 obtain ⟨R, hR⟩ : ∃ R, R = Ψ .cr (p * q) := ⟨_, rfl⟩
 rw [← hR]
 by_cases hp0 : p = 0
 ·have : R = ⟨false, [], [1]⟩ := by rw [hR, hp0, Rat.zero_mul, cr_zero]
  subst this
  rw [hp0, cr_zero]
  refine nx ?_
  refine BrG.split (fun h => ?_) (fun h => by have := h; simp [wz] at this)
  refine nx ?_
  refine ⟨_, hC _ _ _ one_good, ?_⟩
  refine nx ?_
  rfl
 by_cases hq0 : q = 0
 ·have : R = ⟨false, [], [1]⟩ := by rw [hR, hq0, Rat.mul_zero, cr_zero]
  subst this
  have hnp : (Ψ .cr p).num.length ≠ 0 := fun c => hp0 (cr_num_nil.1 (List.eq_nil_of_length_eq_zero c))
  rw [hq0, cr_zero]
  generalize Ψ .cr p = a at *
  obtain ⟨b, x, y⟩ := a
  refine nx ?_
  refine BrG.split (fun h => ?_) (fun h => ?_)
  ·exfalso
   simp only at hnp
   have : x.length = 0 := by have := h; simp only [wz] at this ⊢; omega
   exact hnp this
  refine nx ?_
  refine BrG.split (fun h => ?_) (fun h => by have := h; simp [wz] at this)
  refine nx ?_
  refine ⟨_, hC _ _ _ one_good, ?_⟩
  refine nx ?_
  rfl
 have hnp : (Ψ .cr p).num.length ≠ 0 := fun c => hp0 (cr_num_nil.1 (List.eq_nil_of_length_eq_zero c))
 have hnq : (Ψ .cr q).num.length ≠ 0 := fun c => hq0 (cr_num_nil.1 (List.eq_nil_of_length_eq_zero c))
 have hmul := cr_mul hp0 hq0
 rw [← hR] at hmul
 have hpn : p.num.natAbs ≠ 0 := by simpa using hp0
 have hqn : q.num.natAbs ≠ 0 := by simpa using hq0
 have g1 := made_good (Ψ .cr p).neg (Ψ .cr p).num (Ψ .cr q).den (rp.N1 (by omega)) (rq.N2 (by omega)) (by have := rp.kn; omega) (by have := rq.kd; omega)
 have g2 := made_good (Ψ .cr q).neg (Ψ .cr q).num (Ψ .cr p).den (rq.N1 (by omega)) (rp.N2 (by omega)) (by have := rq.kn; omega) (by have := rp.kd; omega)
 have e1 : (Ψ .cr p).num = Ψ .cn p.num.natAbs := rfl
 have e2 : (Ψ .cr p).den = Ψ .cn p.den := rfl
 have e3 : (Ψ .cr q).num = Ψ .cn q.num.natAbs := rfl
 have e4 : (Ψ .cr q).den = Ψ .cn q.den := rfl
 rw [e1, e4, nv_cn, nv_cn, cr_mk hpn q.den_nz] at g1
 rw [e3, e2, nv_cn, nv_cn, cr_mk hqn p.den_nz] at g2
 have b1 : p.num.natAbs / p.num.natAbs.gcd q.den < 4294967296 ^ j := Nat.lt_of_le_of_lt (Nat.div_le_self _ _) hp.n
 have b2 : q.den / p.num.natAbs.gcd q.den < 4294967296 ^ k := Nat.lt_of_le_of_lt (Nat.div_le_self _ _) hq.d
 have b3 : q.num.natAbs / q.num.natAbs.gcd p.den < 4294967296 ^ k := Nat.lt_of_le_of_lt (Nat.div_le_self _ _) hq.n
 have b4 : p.den / q.num.natAbs.gcd p.den < 4294967296 ^ j := Nat.lt_of_le_of_lt (Nat.div_le_self _ _) hp.d
 have m1 := mul_good (Ψ .cn (p.num.natAbs / p.num.natAbs.gcd q.den)) (Ψ .cn (q.num.natAbs / q.num.natAbs.gcd p.den)) (N_cn b1 (by omega)) (N_cn b3 (by omega)) (by have := len_cn.2 b1; omega) (by have := len_cn.2 b3; omega)
 have m2 := mul_good (Ψ .cn (q.den / p.num.natAbs.gcd q.den)) (Ψ .cn (p.den / q.num.natAbs.gcd p.den)) (N_cn b2 (by omega)) (N_cn b4 (by omega)) (by have := len_cn.2 b2; omega) (by have := len_cn.2 b4; omega)
 rw [nv_cn, nv_cn] at m1 m2
 rw [← e1, ← e4] at g1
 rw [← e3, ← e2] at g2
 generalize p.num.natAbs / p.num.natAbs.gcd q.den = v1 at *
 generalize q.den / p.num.natAbs.gcd q.den = v2 at *
 generalize q.num.natAbs / q.num.natAbs.gcd p.den = v3 at *
 generalize p.den / q.num.natAbs.gcd p.den = v4 at *
 generalize v1 * v3 = w1 at *
 generalize v2 * v4 = w2 at *
 clear e1 e2 e3 e4 rp rq
 generalize Ψ .cr p = a at *
 generalize Ψ .cr q = b at *
 obtain ⟨s, x, y⟩ := a
 obtain ⟨s', x', y'⟩ := b
 simp only at *
 subst hmul
 refine nx ?_
 refine BrG.split (fun h => ?_) (fun h => ?_)
 ·exfalso
  have : x.length = 0 := by have := h; simp only [wz] at this ⊢; omega
  exact hnp this
 refine nx ?_
 refine BrG.split (fun h => ?_) (fun h => ?_)
 ·exfalso
  have : x'.length = 0 := by have := h; simp only [wz] at this ⊢; omega
  exact hnq this
 refine nx ?_
 refine ⟨_, hC _ _ _ g1, ?_⟩
 refine nx ?_
 refine ⟨_, hC _ _ _ g2, ?_⟩
 cases s <;> cases s'
 all_goals
  refine nx ?_
  refine ⟨_, hC _ _ _ m1, ?_⟩
  refine nx ?_
  refine ⟨_, hC _ _ _ m2, ?_⟩
  exact nx trivial
theorem sum_good (l : List RL) {k : Nat} (hl : ∀ r, r ∈ l → Rn k r) (hk : 0 < k) (hs : (l.length + 1) * (k + 1) < 68719476736) :
  Good P F.rat_Sum [.d (.sl (Ψ .dRs l))] [] (.d (.agg (dR Ψ (Ψ .cr (rsum l))))) [] := by
 refine G.rat_Sum fun C C2 hC hC2 => ?_
 have hln : l.length < 68719476736 := by
  have := Nat.le_mul_of_pos_right (l.length + 1) (show 0 < k + 1 by omega)
  omega
 have hq : ∀ i, i ≤ l.length → Qn (i * (k + 1) + 1) (rsum (l.take i)) := fun i => by
  induction i with
  | zero => intro _; exact Qn_zero (by omega)
  | succ i ih =>
   intro hi
   obtain ⟨r, hr⟩ : ∃ r, l[i]? = some r := ⟨_, List.getElem?_eq_getElem (by omega)⟩
   rw [take_succ_of hr, rsum_snoc]
   refine (Qn_add (ih (by omega)) (Qn_rv (hl r (List.mem_of_getElem? hr)) hk)).mono ?_
   rw [Nat.add_mul]; omega
 have hbd : ∀ i, i ≤ l.length → i * (k + 1) + 1 < 68719476736 := fun i hi => by
  have := Nat.mul_le_mul_right (k + 1) hi
  rw [Nat.add_mul] at hs
  omega
 have hst : ∀ i r, l[i]? = some r → rsum (l.take (i + 1)) = rsum (l.take i) + rv r := fun i r hr => by rw [take_succ_of hr, rsum_snoc]
 have hlast : rsum (l.take l.length) = rsum l := by rw [List.take_length]
 have hz : rsum (l.take 0) = 0 := rfl
 obtain ⟨R0, hR0⟩ : ∃ R, R = rsum l := ⟨_, rfl⟩
 rw [← hR0] at hlast ⊢
 obtain ⟨S, hS⟩ : ∃ S : Nat → Rat, S = fun i => rsum (l.take i) := ⟨_, rfl⟩
 have hSe : ∀ i, rsum (l.take i) = S i := fun i => by rw [hS]
 simp only [hSe] at hq hst hlast hz
 clear hSe hS
 refine nx ?_
 refine ⟨_, hC _ _ _ one_good, ?_⟩
 refine nx ?_
 refine LoopG.intro (σ := Nat) [2, 3, 8, 9, 10] [1050, 1051]
   (fun i => [.ptr 1050 0, .ptr 1051 0, .d (.sl (Ψ .dRs l)), .d (.i .i64 (Ω .ci l.length)), .d (.i .i64 (Ω .ci i))])
   (fun i => [.var [.d (.b false), .nil, .nil], match i with | 0 => .var [.d (.b false), .nil, .d (.sl (Ψ .lims [1]))] | i + 1 => .var ((dR Ψ (Ψ .cr (S (i + 1)))).map V.d)])
   (fun i => i ≤ l.length)
   (fun i => l.length - i) 0 [1000, 1102] (Nat.zero_le _) ⟨rfl, rfl, rfl⟩ ?_
 rintro (_ | i) hi
 ·refine nx ?_
  refine BrG.split (fun h => ?_) (fun h => ?_)
  ·have hlen : 0 < l.length := by have := h; simp only [wz] at this; omega
   obtain ⟨r, hr⟩ : ∃ r, l[0]? = some r := ⟨_, List.getElem?_eq_getElem hlen⟩
   have g := read_good r (hl r (List.mem_of_getElem? hr)) (by have := hbd 1 hlen; omega)
   have e : S 1 = rv r := by rw [hst 0 r hr, hz, Rat.zero_add]
   rw [← e] at g
   refine nx ?_
   refine ⟨Int.le_refl _, (idx_dRs 0 r rfl hr rfl ?_).2⟩
   refine nx ?_
   refine BrG.split (fun h => ?_) (fun h => by have := h; simp [wz] at this)
   refine nx ?_
   refine ⟨_, hC _ _ _ g, ?_⟩
   refine nx ?_
   refine ⟨1, [1050, 1051], hlen, by omega, rfl, ?_, rfl⟩
   refine Eq.trans (b := [.ptr 1050 0, .ptr 1051 0, .d (.sl (Ψ .dRs l)), .d (.i .i64 (Ω .ci l.length)), .d (.i .i64 _)]) rfl ?_
   rw [wrap_succ (by omega)]
  ·have hlen : l.length = 0 := by
    have := h; simp only [wz] at this
    omega
   rw [hlen, hz] at hlast
   subst hlast
   refine nx ?_
   rw [cr_zero]
   rfl
 ·have q := hq (i + 1) hi
  have hb := hbd (i + 1) hi
  refine nx ?_
  refine BrG.split (fun h => ?_) (fun h => ?_)
  ·have hlen : i + 1 < l.length := by have := h; simp only [wz] at this; omega
   obtain ⟨r, hr⟩ : ∃ r, l[i + 1]? = some r := ⟨_, List.getElem?_eq_getElem hlen⟩
   have hb2 := hbd (i + 2) hlen
   have g := plus_good (Ψ .cr (S (i + 1))) r (Rn_cr.2 q) (hl r (List.mem_of_getElem? hr)) (by omega) hk hb (by rw [Nat.add_mul] at hb2; omega)
   rw [rv_cr, ← hst _ r hr] at g
   refine nx ?_
   refine idx_dRs (i + 1) r rfl hr rfl ?_
   refine nx ?_
   refine BrG.split (fun h => ?_) (fun h => ?_)
   ·exfalso
    simp [wz] at h
    first | omega | (have := of_decide_eq_true h; omega)
   refine nx ?_
   refine ⟨_, hC _ _ _ g, ?_⟩
   refine nx ?_
   refine ⟨i + 1 + 1, [1050, 1051], hlen, by omega, rfl, ?_, rfl⟩
   refine Eq.trans (b := [.ptr 1050 0, .ptr 1051 0, .d (.sl (Ψ .dRs l)), .d (.i .i64 (Ω .ci l.length)), .d (.i .i64 _)]) rfl ?_
   rw [wrap_succ (by omega)]
  ·have hlen : i + 1 = l.length := by have := h; simp only [wz] at this; omega
   rw [← hlen] at hlast
   subst hlast
   exact nx trivial
theorem product_good (l : List RL) {k : Nat} (hl : ∀ r, r ∈ l → Rn k r) (hk : 0 < k) (hs : (l.length + 1) * (k + 1) < 68719476736) :
  Good P F.rat_Product [.d (.sl (Ψ .dRs l))] [] (.d (.agg (dR Ψ (Ψ .cr (rprod l))))) [] := by
 refine G.rat_Product fun C C2 hC hC2 => ?_
 have hln : l.length < 68719476736 := by
  have := Nat.le_mul_of_pos_right (l.length + 1) (show 0 < k + 1 by omega)
  omega
 have hq : ∀ i, i ≤ l.length → Qn (i * (k + 1) + 1) (rprod (l.take i)) := fun i => by
  induction i with
  | zero => intro _; exact Qn_one (by omega)
  | succ i ih =>
   intro hi
   obtain ⟨r, hr⟩ : ∃ r, l[i]? = some r := ⟨_, List.getElem?_eq_getElem (by omega)⟩
   rw [take_succ_of hr, rprod_snoc]
   refine (Qn_mul (ih (by omega)) (Qn_rv (hl r (List.mem_of_getElem? hr)) hk) (by omega)).mono ?_
   rw [Nat.add_mul]; omega
 have hbd : ∀ i, i ≤ l.length → i * (k + 1) + 1 < 68719476736 := fun i hi => by
  have := Nat.mul_le_mul_right (k + 1) hi
  rw [Nat.add_mul] at hs
  omega
 have hst : ∀ i r, l[i]? = some r → rprod (l.take (i + 1)) = rprod (l.take i) * rv r := fun i r hr => by rw [take_succ_of hr, rprod_snoc]
 have hlast : rprod (l.take l.length) = rprod l := by rw [List.take_length]
 have hz : rprod (l.take 0) = 1 := rfl
 obtain ⟨R0, hR0⟩ : ∃ R, R = rprod l := ⟨_, rfl⟩
 rw [← hR0] at hlast ⊢
 obtain ⟨S, hS⟩ : ∃ S : Nat → Rat, S = fun i => rprod (l.take i) := ⟨_, rfl⟩
 have hSe : ∀ i, rprod (l.take i) = S i := fun i => by rw [hS]
 simp only [hSe] at hq hst hlast hz
 clear hSe hS
 refine nx ?_
 refine ⟨_, hC _ _ _ one_good, ?_⟩
 refine nx ?_
 refine ⟨_, hC _ _ _ one_good, ?_⟩
 refine nx ?_
 refine LoopG.intro (σ := Nat) [2, 3, 9, 10, 11] [1050, 1051]
   (fun i => [.ptr 1050 0, .ptr 1051 0, .d (.sl (Ψ .dRs l)), .d (.i .i64 (Ω .ci l.length)), .d (.i .i64 (Ω .ci i))])
   (fun i => [.var [.d (.b false), .nil, .nil], .var ((dR Ψ (Ψ .cr (S i))).map V.d)])
   (fun i => i ≤ l.length)
   (fun i => l.length - i) 0 [1000, 1103] (Nat.zero_le _) ⟨rfl, rfl, ?_⟩ ?_
 ·rw [hz, cr_one]
  rfl
 intro i hi
 have q := hq i hi
 have hb := hbd i hi
 refine nx ?_
 refine BrG.split (fun h => ?_) (fun h => ?_)
 ·have hlen : i < l.length := by have := h; simp only [wz] at this; omega
  obtain ⟨r, hr⟩ : ∃ r, l[i]? = some r := ⟨_, List.getElem?_eq_getElem hlen⟩
  have hb2 := hbd (i + 1) hlen
  have hrn := hl r (List.mem_of_getElem? hr)
  have g1 := read_good r hrn (by rw [Nat.add_mul] at hb2; omega)
  have g := times_good (S i) (rv r) q (Qn_rv hrn hk) (by omega) hk hb (by rw [Nat.add_mul] at hb2; omega)
  rw [← hst _ r hr] at g
  refine nx ?_
  refine idx_dRs i r rfl hr rfl ?_
  refine nx ?_
  refine ⟨_, hC _ _ _ g1, ?_⟩
  refine nx ?_
  refine ⟨_, hC _ _ _ g, ?_⟩
  refine nx ?_
  refine ⟨i + 1, [1050, 1051], hlen, by omega, rfl, ?_, rfl⟩
  refine Eq.trans (b := [.ptr 1050 0, .ptr 1051 0, .d (.sl (Ψ .dRs l)), .d (.i .i64 (Ω .ci l.length)), .d (.i .i64 _)]) rfl ?_
  rw [wrap_succ (by omega)]
 ·have hlen : i = l.length := by have := h; simp only [wz] at this; omega
  rw [← hlen] at hlast
  subst hlast
  exact nx trivial
theorem sign_good (r : RL) {k : Nat} (h : Rn k r) (hk : k < 549755813888) : Good P F.rat_Sign [.d (.agg (dR Ψ r))] [] (.d (.i .i64 (Ψ .sI (rv r)))) [] := by
 refine G.rat_Sign fun C C2 hC hC2 => ?_
 have g1 := bits_good r.num (h.N1 (by omega))
 have g2 := bits_good r.den (h.N2 (by omega))
 have z := @rv_zero_iff r
 have hs := @sI_rv r
 rw [← bl_eq_zero (n := nv r.num), ← bl_eq_zero (n := nv r.den)] at z
 simp only [ne_eq, ← bl_eq_zero (n := nv r.num), ← bl_eq_zero (n := nv r.den)] at hs
 have h0 := @sI_zero (rv r)
 rw [z] at h0
 obtain ⟨R, hR⟩ : ∃ R, R = Ψ .sI (rv r) := ⟨_, rfl⟩
 rw [← hR] at hs h0 ⊢
 generalize bl (nv r.num) = m at *
 generalize bl (nv r.den) = n at *
 obtain ⟨s, x, y⟩ := r
 simp only at *
 refine nx ?_
 refine ⟨_, hC _ _ _ g1, ?_⟩
 refine nx ?_
 refine BrG.split (fun h => ?_) (fun h => ?_)
 ·have hm : m = 0 := by have := h; simp only [wz] at this ⊢; omega
  have := h0.2 (.inl hm)
  subst this
  exact nx trivial
 ·have hm : m ≠ 0 := by have := h; simp only [wz] at this ⊢; omega
  refine nx ?_
  refine ⟨_, hC _ _ _ g2, ?_⟩
  refine nx ?_
  refine BrG.split (fun h => ?_) (fun h => ?_)
  ·have hm : n = 0 := by have := h; simp only [wz] at this ⊢; omega
   have := h0.2 (.inr hm)
   subst this
   exact nx trivial
  ·have hn : n ≠ 0 := by have := h; simp only [wz] at this ⊢; omega
   have := hs hm hn
   subst this
   cases s
   ·exact nx trivial
   ·exact nx trivial
theorem rcmp_good (a b : RL) {j k : Nat} (ha : Rn j a) (hb : Rn k b) (hj2 : j < 68719476736) (hk2 : k < 68719476736) :
  Good P F.rat_Cmp [.d (.agg (dR Ψ a)), .d (.agg (dR Ψ b))] [] (.d (.i .i64 (Ψ .cI (rv a) (rv b)))) [] := by
 refine G.rat_Cmp fun C C2 hC hC2 => ?_
 have g1 := sign_good a ha (by omega)
 have g2 := sign_good b hb (by omega)
 have m1 := mul_good a.num b.den (ha.N1 (by omega)) (hb.N2 (by omega)) (by have := ha.kn; omega) (by have := hb.kd; omega)
 have m2 := mul_good b.num a.den (hb.N1 (by omega)) (ha.N2 (by omega)) (by have := hb.kn; omega) (by have := ha.kd; omega)
 have b1 : nv a.num * nv b.den < 4294967296 ^ (j + k) := lt_mul_pow (nv_lt_pow ha.ln ha.kn) (nv_lt_pow hb.ld hb.kd)
 have b2 : nv b.num * nv a.den < 4294967296 ^ (j + k) := by rw [Nat.add_comm]; exact lt_mul_pow (nv_lt_pow hb.ln hb.kn) (nv_lt_pow ha.ld ha.kd)
 have g3 := cmp_good (Ψ .cn (nv a.num * nv b.den)) (Ψ .cn (nv b.num * nv a.den)) (N_cn b1 (by omega)) (N_cn b2 (by omega))
 rw [nv_cn, nv_cn] at g3
 have e1 := @cI_sign_ne (rv a) (rv b)
 have e2 := @cI_sign_eq a b
 have l1 := sI_lt (rv a)
 have l2 := cmpI_lt (nv a.num * nv b.den) (nv b.num * nv a.den)
 generalize Ψ .cmpI (nv a.num * nv b.den) (nv b.num * nv a.den) = c at *
 generalize nv a.num * nv b.den = u at *
 generalize nv b.num * nv a.den = v at *
 generalize Ψ .sI (rv a) = s at *
 generalize Ψ .sI (rv b) = t at *
 obtain ⟨R, hR⟩ : ∃ R, R = Ψ .cI (rv a) (rv b) := ⟨_, rfl⟩
 rw [← hR] at e1 e2 ⊢
 clear hR
 obtain ⟨sa, xa, ya⟩ := a
 obtain ⟨sb, xb, yb⟩ := b
 simp only at *
 refine nx ?_
 refine ⟨_, hC _ _ _ g1, ?_⟩
 refine nx ?_
 refine ⟨_, hC _ _ _ g2, ?_⟩
 refine nx ?_
 refine BrG.split (fun h => ?_) (fun h => ?_)
 ·have hne : s ≠ t := by have := h; simp only [wz] at this ⊢; omega
  have := e1 hne
  refine nx ?_
  refine BrG.split (fun h => ?_) (fun h => ?_)
  ·rw [if_pos (by have := h; simp only [wz] at this; exact this)] at this
   subst this
   exact nx trivial
  ·rw [if_neg (by have := h; simp only [wz] at this; omega)] at this
   subst this
   exact nx trivial
 ·have he : s = t := by have := h; simp only [wz] at this ⊢; omega
  have hRc := e2 he
  refine nx ?_
  refine ⟨_, hC _ _ _ m1, ?_⟩
  refine nx ?_
  refine ⟨_, hC _ _ _ m2, ?_⟩
  refine nx ?_
  refine ⟨_, hC _ _ _ g3, ?_⟩
  refine nx ?_
  have : Ω .wrap .i64 (s * c) = s * c := by
   have h1 : s = -1 ∨ s = 0 ∨ s = 1 := by omega
   have h2 : c = -1 ∨ c = 0 ∨ c = 1 := by omega
   rcases h1 with rfl | rfl | rfl <;> rcases h2 with rfl | rfl | rfl <;> rfl
  rw [this, ← hRc]
end Go.K.S
end
section
namespace Go.K
open Go
theorem of_mk (n d : Int) : mkRat (sg (decide (n < 0) != decide (d < 0)) n.natAbs) d.natAbs = (n : Rat) / (d : Rat) := by
 rw [Rat.mkRat_eq_div]
 have key : ∀ m : Int, (m : Rat) = if m < 0 then -((m.natAbs : Nat) : Rat) else ((m.natAbs : Nat) : Rat) := fun m => by
  by_cases h : m < 0
  ·rw [if_pos h]
   have : m = -((m.natAbs : Nat) : Int) := by omega
   conv => lhs; rw [this]
   push_cast
   rfl
  ·rw [if_neg h]
   have : m = ((m.natAbs : Nat) : Int) := by omega
   conv => lhs; rw [this]
   push_cast
   rfl
 have c : ∀ u : Nat, (((u : Int)) : Rat) = (u : Rat) := fun u => by push_cast; rfl
 have cneg : ∀ u : Nat, ((-(u : Int) : Int) : Rat) = -(u : Rat) := fun u => by push_cast; rfl
 rw [key n, key d]
 generalize n.natAbs = u
 generalize d.natAbs = v
 have e1 : (u : Rat) / (v : Rat) = -(u : Rat) / -(v : Rat) := by
  by_cases h : (v : Rat) = 0
  ·rw [h]; simp [Rat.div_def]
  ·grind
 have e2 : -(u : Rat) / (v : Rat) = (u : Rat) / -(v : Rat) := by
  by_cases h : (v : Rat) = 0
  ·rw [h]; simp [Rat.div_def]
  ·grind
 by_cases h1 : n < 0 <;> by_cases h2 : d < 0 <;> simp only [h1, h2, decide_true, decide_false, bne_self_eq_false, if_true, if_false, sg, Bool.false_eq_true, c]
 ·exact e1
 ·exact cneg u ▸ rfl
 ·exact (cneg u ▸ e2)
end Go.K
namespace Go.K.S
open Go Go.K
theorem size_good (n : Int) (h1 : -9223372036854775808 ≤ n) (h2 : n ≤ 9223372036854775807) : Good P F.rat_size [.d (.i .i64 n)] [] (.d (dN Ψ (Ψ .cn n.natAbs))) [] := by
 refine G.rat_size fun C C2 hC hC2 => ?_
 have g := of_good n.natAbs (by omega)
 obtain ⟨m, hm⟩ : ∃ m, m = n.natAbs := ⟨_, rfl⟩
 rw [← hm] at g ⊢
 refine nx ?_
 refine BrG.split (fun h => ?_) (fun h => ?_)
 ·have h0 := of_decide_eq_true h
  have e : Ω .wrap .u64 (0 - Ω .wrap .u64 n) = Ω .ci m := by
   rw [wrapu64, wrapu64]; simp only [wz]; omega
  refine nx ?_
  rw [e]
  refine ⟨_, hC _ _ _ g, ?_⟩
  exact nx trivial
 ·have h0 := of_decide_eq_false h
  have e : Ω .wrap .u64 n = Ω .ci m := by
   rw [wrapu64]; simp only [wz]; omega
  refine nx ?_
  rw [e]
  refine ⟨_, hC _ _ _ g, ?_⟩
  exact nx trivial
theorem rof_good (n d : Int) (h1 : -9223372036854775808 ≤ n) (h2 : n ≤ 9223372036854775807) (h3 : -9223372036854775808 ≤ d) (h4 : d ≤ 9223372036854775807) :
  Good P F.rat_Of [.d (.i .i64 n), .d (.i .i64 d)] [] (.d (.agg (dR Ψ (Ψ .cr ((n : Rat) / (d : Rat)))))) [] := by
 refine G.rat_Of fun C C2 hC hC2 => ?_
 have g1 := size_good n h1 h2
 have g2 := size_good d h3 h4
 have b1 : n.natAbs < 4294967296 ^ 2 := by omega
 have b2 : d.natAbs < 4294967296 ^ 2 := by omega
 have g3 := made_good (decide (n < 0) != decide (d < 0)) (Ψ .cn n.natAbs) (Ψ .cn d.natAbs) (N_cn b1 (by omega)) (N_cn b2 (by omega)) (by have := len_cn.2 b1; omega) (by have := len_cn.2 b2; omega)
 rw [nv_cn, nv_cn, of_mk] at g3
 obtain ⟨R, hR⟩ : ∃ R, R = Ψ .cr ((n : Rat) / (d : Rat)) := ⟨_, rfl⟩
 rw [← hR] at g3 ⊢
 clear hR
 generalize n.natAbs = u at *
 generalize d.natAbs = v at *
 refine nx ?_
 refine BrG.split (fun h => ?_) (fun h => ?_)
 all_goals
  rw [show decide (n < 0) = _ from h] at g3
  refine nx ?_
  refine BrG.split (fun h => ?_) (fun h => ?_)
  all_goals
   rw [show decide (d < 0) = _ from h] at g3
   refine nx ?_
   refine ⟨_, hC _ _ _ g1, ?_⟩
   refine nx ?_
   refine ⟨_, hC _ _ _ g2, ?_⟩
   refine nx ?_
   refine ⟨_, hC _ _ _ g3, ?_⟩
   exact nx trivial
end Go.K.S
end
section
namespace Go.K
theorem scat_nil (l : List D) : Ω .scat [] l = l := rfl
theorem imax_ci (a b : Nat) : Ω .imax (Ω .ci a) (Ω .ci b) = Ω .ci (max a b) := by
 simp only [w_imax, w_ci]
 by_cases h : a < b
 ·rw [if_pos (by omega), Nat.max_eq_right (by omega)]
 ·rw [if_neg (by omega), Nat.max_eq_left (by omega)]
theorem getD_take_drop {l : List Nat} (k : Nat) : nv (l.drop k) = l.getD k 0 + 4294967296 * nv (l.drop (k + 1)) := by
 rcases Nat.lt_or_ge k l.length with h | h
 ·rw [nv_drop (List.getElem?_eq_getElem h)]; simp [List.getD, h]
 ·rw [List.drop_of_length_le h, List.drop_of_length_le (by omega)]; simp [List.getD, h]
theorem nv_lt_of' {x y : List Nat} {k : Nat} (hx : lim x) (hd : nv (x.drop (k + 1)) = nv (y.drop (k + 1))) (h : x.getD k 0 < y.getD k 0) : nv x < nv y := by
 have e1 : nv x = nv (x.take k) + 4294967296 ^ k * nv (x.drop k) := by
  rcases Nat.lt_or_ge k x.length with q | q
  ·exact nv_split x k (by omega)
  ·rw [List.take_of_length_le q, List.drop_of_length_le q]; simp
 have ky : k < y.length := by
  rcases Nat.lt_or_ge k y.length with q | q
  ·exact q
  ·rw [show y.getD k 0 = 0 by simp [List.getD, q]] at h; omega
 rw [e1, nv_split y k (by omega), getD_take_drop, getD_take_drop k, hd]
 have h1 : nv (x.take k) < 4294967296 ^ k := by
  refine Nat.lt_of_lt_of_le (nv_lt (lim_take hx k)) (Nat.pow_le_pow_right (by omega) ?_)
  rw [List.length_take]; omega
 generalize 4294967296 ^ k = M at *
 generalize nv (y.drop (k + 1)) = d
 have h2 := Nat.mul_le_mul_left M (show x.getD k 0 + 4294967296 * d + 1 ≤ y.getD k 0 + 4294967296 * d by omega)
 rw [Nat.mul_add, Nat.mul_one] at h2
 omega
end Go.K
namespace Go.K.S
open Go Go.K
theorem norm1_good (l : List Nat) (h : N l) : Good P F.penumbraref01_Norm [.d (dN Ψ l)] [] (.d (dN Ψ (Ψ .cn (nv l)))) [] := by
 refine G.penumbraref01_Norm fun C C2 hC hC2 => ?_
 have hl := h.lim
 have hb := h.len
 refine nx ?_
 refine LoopG.intro (σ := Nat) [0, 3] [] (fun n => [.d (dN Ψ l), .d (.i .i64 (Ω .ci n))]) (fun _ => []) (fun n => n ≤ l.length ∧ nv (l.take n) = nv l) (fun n => n) l.length [] ⟨Nat.le_refl _, by simp⟩ ⟨rfl, rfl, rfl⟩ ?_
 rintro n ⟨hn, he⟩
 have fin : n = 0 ∨ cano (l.take n) → Ω .ssub (Ψ .lims l) 0 n = Ψ .lims (Ψ .cn (nv l)) := fun h => by
  rw [ssub_lims', List.drop_zero]
  rcases h with rfl | h
  ·rw [← he, List.take_zero, nv_nil, cn_zero]
  ·have := cn_cano _ (lim_take hl n) h
   rw [he] at this
   rw [this]
 refine nx ?_
 refine BrG.split (fun h => ?_) (fun h => ?_)
 ·refine nx ?_
  simp [wz] at h
  obtain ⟨v, hv⟩ : ∃ v, l[n - 1]? = some v := ⟨_, List.getElem?_eq_getElem (by omega)⟩
  refine idx_lims (n - 1) v (wrap_pred h (by omega)) hv rfl ?_
  refine nx ?_
  have hs := nv_take_succ hv
  have hn1 : n - 1 + 1 = n := by omega
  rw [hn1] at hs
  refine BrG.split (fun h => ?_) (fun h => ?_)
  ·refine nx ?_
   simp [wz] at h
   refine ⟨n - 1, [], ⟨by omega, by rw [h] at hs; omega⟩, by omega, rfl, ?_, rfl⟩
   rw [← wrap_pred (by omega) (by omega)]; rfl
  ·refine nx ?_
   simp [wz] at h
   refine ⟨ci_nonneg _, by simp only [wz]; omega, by simp only [wz]; omega, (by first | exact rfl | exact fun _ => rfl), ?_⟩
   rw [show Ω .nsub n 0 = n from rfl, fin (.inr (by rw [← hn1]; exact cano_take hv h))]
   have hc := len_cn_nv hl
   refine ⟨lims_cells l, lims_cells _, by simp only [wz]; omega, ?_⟩
   rw [scat_nil]
 ·refine nx ?_
  simp [wz] at h
  subst h
  rw [show Ω .nsub 0 0 = 0 from rfl, fin (.inl rfl)]
  have hc := len_cn_nv hl
  refine ⟨ci_nonneg _, by simp only [wz]; omega, Int.le_refl _, (by first | exact rfl | exact fun _ => rfl), lims_cells l, lims_cells _, by simp only [wz]; omega, ?_⟩
  rw [scat_nil]
theorem same1_good (a b : List Nat) (hal : a.length < 1099511627776) (hbl : b.length < 1099511627776) : Good P F.penumbraref01_Same [.d (dN Ψ a), .d (dN Ψ b)] [] (.d (.b (decide (a = b)))) [] := by
 refine G.penumbraref01_Same fun C C2 hC hC2 => ?_
 generalize hr : decide (a = b) = r
 refine nx ?_
 refine BrG.split (fun h => ?_) (fun h => ?_)
 ·have hne : a.length ≠ b.length := by have := h; simp only [wz] at this ⊢; omega
  have : r = false := by rw [← hr]; exact decide_eq_false (fun q => hne (by rw [q]))
  subst this
  exact nx trivial
 ·have he : a.length = b.length := by have := h; simp only [wz] at this ⊢; omega
  refine nx ?_
  refine LoopG.intro (σ := Nat) [0, 1, 5] [] (fun k => [.d (dN Ψ a), .d (dN Ψ b), .d (.i .i64 (Ω .ci k))]) (fun _ => []) (fun k => k ≤ a.length ∧ a.take k = b.take k) (fun k => a.length - k) 0 []
   ⟨Nat.zero_le _, rfl⟩ ⟨rfl, rfl, rfl⟩ ?_
  rintro k ⟨hk, hd⟩
  refine nx ?_
  refine BrG.split (fun h => ?_) (fun h => ?_)
  ·have hk0 : k < a.length := by have := h; simp only [wz] at this; omega
   obtain ⟨u, hu⟩ : ∃ u, a[k]? = some u := ⟨_, List.getElem?_eq_getElem (by omega)⟩
   obtain ⟨v, hv⟩ : ∃ v, b[k]? = some v := ⟨_, List.getElem?_eq_getElem (by omega)⟩
   refine nx ?_
   refine idx_lims k u rfl hu rfl ?_
   refine nx ?_
   refine idx_lims k v rfl hv rfl ?_
   refine nx ?_
   refine BrG.split (fun h => ?_) (fun h => ?_)
   ·have huv : u ≠ v := by have := h; simp only [wz] at this ⊢; omega
    have : r = false := by
     rw [← hr]
     refine decide_eq_false (fun q => huv ?_)
     rw [q, hv] at hu
     exact (Option.some.inj hu).symm
    subst this
    exact nx trivial
   ·have huv : u = v := by have := h; simp only [wz] at this ⊢; omega
    subst huv
    refine nx ?_
    refine ⟨k + 1, [], ⟨hk0, ?_⟩, by omega, rfl, ?_, rfl⟩
    ·rw [List.take_add_one, List.take_add_one, hd, hu, hv]
    ·refine Eq.trans (b := [V.d (dN Ψ a), V.d (dN Ψ b), V.d (.i .i64 _)]) rfl ?_
     rw [wrap_succ (by omega)]
  ·have hk0 : k = a.length := by have := h; simp only [wz] at this; omega
   subst hk0
   have : r = true := by
    rw [← hr]
    refine decide_eq_true ?_
    rw [List.take_length, he, List.take_length] at hd
    exact hd
   subst this
   exact nx trivial
theorem of1_good (n : Nat) (h : n < 18446744073709551616) : Good P F.penumbraref01_Of [.d (.i .u64 (Ω .ci n))] [] (.d (dN Ψ (Ψ .cn n))) [] := by
 refine G.penumbraref01_Of fun C C2 hC hC2 => ?_
 have hl : lim [n % 4294967296, n / 4294967296] := by simp [lim_cons, lim_nil]; omega
 have hv : nv [n % 4294967296, n / 4294967296] = n := by simp; omega
 have hg := norm1_good [n % 4294967296, n / 4294967296] ⟨hl, by simp⟩
 rw [hv] at hg
 refine nx ?_
 rw [ishr32, wrapu32_ci, wrapu32_ci, show n / 4294967296 % 4294967296 = n / 4294967296 by omega]
 refine ⟨_, hC _ _ _ hg, ?_⟩
 exact nx trivial
theorem limb1_good (l : List Nat) (k : Nat) (h : N l) : Good P F.penumbraref01_limb [.d (dN Ψ l), .d (.i .i64 (Ω .ci k))] [] (.d (.i .u64 (Ω .ci (l.getD k 0)))) [] := by
 refine G.penumbraref01_limb fun C C2 hC hC2 => ?_
 have hgl := getD_lt h.lim k
 generalize hr : l.getD k 0 = r at *
 refine nx ?_
 refine BrG.split (fun h => ?_) (fun h => ?_)
 ·have hk0 : k < l.length := by have := h; simp only [wz] at this; omega
  have hu : l[k]? = some r := by rw [← hr]; simp [List.getD, hk0]
  refine nx ?_
  refine idx_lims k r rfl hu rfl ?_
  refine nx ?_
  rw [wrapu64_ci, Nat.mod_eq_of_lt (by omega)]
 ·have hk0 : l.length ≤ k := by have := h; simp only [wz] at this; omega
  have : r = 0 := by rw [← hr]; simp [List.getD, hk0]
  subst this
  refine nx ?_
  rfl
theorem cmp1_good (a b : List Nat) (ha : N a) (hb : N b) : Good P F.penumbraref01_Cmp [.d (dN Ψ a), .d (dN Ψ b)] [] (.d (.i .i64 (Ψ .cmpI (nv a) (nv b)))) [] := by
 refine G.penumbraref01_Cmp fun C C2 hC hC2 => ?_
 have hal := ha.len
 have hbl := hb.len
 generalize hr : Ψ .cmpI (nv a) (nv b) = r
 obtain ⟨m, hm⟩ : ∃ m, m = max a.length b.length := ⟨_, rfl⟩
 have hma : a.length ≤ m := by omega
 have hmb : b.length ≤ m := by omega
 refine nx ?_
 rw [imax_ci, ← hm]
 refine LoopG.intro (σ := Nat) [0, 1, 5] [] (fun k => [.d (dN Ψ a), .d (dN Ψ b), .d (.i .i64 (Ω .wrap .i64 (Ω .ci k - 1)))]) (fun _ => []) (fun k => k ≤ m ∧ nv (a.drop k) = nv (b.drop k)) (fun k => k) m []
  ⟨Nat.le_refl _, by rw [List.drop_of_length_le hma, List.drop_of_length_le hmb]⟩ ⟨rfl, ?_, rfl⟩ ?_
 ·refine Eq.trans (b := [V.d (dN Ψ a), V.d (dN Ψ b), V.d (.i .i64 _)]) rfl ?_
  rfl
 rintro k ⟨hk, hd⟩
 refine nx ?_
 refine BrG.split (fun h => ?_) (fun h => ?_)
 ·rw [wrap64 (by simp only [wz]; omega) (by simp only [wz]; omega)] at h
  have hk0 : 0 < k := by have := h; simp only [wz] at this; omega
  obtain ⟨j, rfl⟩ : ∃ j, k = j + 1 := ⟨k - 1, by omega⟩
  have hk1 : Ω .wrap .i64 (Ω .ci (j + 1) - 1) = Ω .ci j := wrap_pred (by omega) (by omega)
  rw [hk1]
  have g1 := limb1_good a j ha
  have g2 := limb1_good b j hb
  have h1 := getD_take_drop (l := a) j
  have h2 := getD_take_drop (l := b) j
  have h3 : a.getD j 0 < b.getD j 0 → nv a < nv b := nv_lt_of' ha.lim hd
  have h4 : b.getD j 0 < a.getD j 0 → nv b < nv a := nv_lt_of' hb.lim hd.symm
  generalize a.getD j 0 = u at *
  generalize b.getD j 0 = v at *
  refine nx ?_
  refine ⟨_, hC _ _ _ g1, ?_⟩
  refine nx ?_
  refine ⟨_, hC _ _ _ g2, ?_⟩
  refine nx ?_
  refine BrG.split (fun h => ?_) (fun h => ?_)
  ·have huv : u < v := by have := h; simp only [wz] at this; omega
   have : r = -1 := by rw [← hr]; simp only [p_cmpI, h3 huv, if_true]
   subst this
   exact nx trivial
  ·have huv : ¬ u < v := by have := h; simp only [wz] at this; omega
   refine nx ?_
   refine BrG.split (fun h => ?_) (fun h => ?_)
   ·have hvu : v < u := by have := h; simp only [wz] at this; omega
    have : r = 1 := by
     have := h4 hvu
     rw [← hr]; simp only [p_cmpI, this, if_true, if_neg (show ¬ nv a < nv b by omega)]
    subst this
    exact nx trivial
   ·have hvu : ¬ v < u := by have := h; simp only [wz] at this; omega
    refine nx ?_
    refine ⟨j, [], ⟨by omega, by omega⟩, by omega, rfl, ?_, rfl⟩
    refine Eq.trans (b := [V.d (dN Ψ a), V.d (dN Ψ b), V.d (.i .i64 _)]) rfl ?_
    rfl
 ·rw [wrap64 (by simp only [wz]; omega) (by simp only [wz]; omega)] at h
  have hk0 : k = 0 := by have := h; simp only [wz] at this; omega
  subst hk0
  have hab : nv a = nv b := by simpa using hd
  have : r = 0 := by rw [← hr, hab]; simp only [p_cmpI, if_neg (Nat.lt_irrefl _)]
  subst this
  exact nx trivial
theorem zero1_good (a : List Nat) (ha : N a) : Good P F.penumbraref01_Zero [.d (dN Ψ a)] [] (.d (.b (decide (nv a = 0)))) [] := by
 refine G.penumbraref01_Zero fun C C2 hC hC2 => ?_
 generalize hr : decide (nv a = 0) = r
 refine nx ?_
 refine ⟨_, hC _ _ _ (cmp1_good a [] ha N_nil), ?_⟩
 refine nx ?_
 have e : Ω .eq (Ψ .cmpI (nv a) (nv [])) 0 = r := by rw [← hr]; exact decide_eq_decide.2 cmpI_zero
 rw [e]
 cases r
 ·exact nx trivial
 ·exact nx trivial
end Go.K.S
end
section
namespace Go.K
theorem tdivB (a : Nat) : (Ω .ci a).tdiv 4294967296 = Ω .ci (a / 4294967296) := tdiv_ci a 4294967296
theorem tmodB (a : Nat) : Ω .tmod (Ω .ci a) 4294967296 = Ω .ci (a % 4294967296) := tmod_ci a 4294967296
theorem tdiv2 (a : Nat) : (Ω .ci a).tdiv 2 = Ω .ci (a / 2) := tdiv_ci a 2
theorem tmod2 (a : Nat) : Ω .tmod (Ω .ci a) 2 = Ω .ci (a % 2) := tmod_ci a 2
end Go.K
namespace Go.K.S
open Go Go.K
theorem add1_good (a b : List Nat) (ha : N a) (hb : N b) (hal : a.length < 549755813888) (hbl : b.length < 549755813888) : Good P F.penumbraref01_Add [.d (dN Ψ a), .d (dN Ψ b)] [] (.d (dN Ψ (Ψ .cn (nv a + nv b)))) [] := by
 refine G.penumbraref01_Add fun C C2 hC hC2 => ?_
 obtain ⟨m, hm⟩ : ∃ m, m = max a.length b.length := ⟨_, rfl⟩
 have hma : a.length ≤ m := by omega
 have hmb : b.length ≤ m := by omega
 have hml : m < 549755813888 := by omega
 refine nx ?_
 refine LoopG.intro (σ := Nat × List Nat × Nat) [0, 1, 5, 6, 7] [1050]
   (fun s => [.d (dN Ψ a), .d (dN Ψ b), .own 1050 1, .d (.i .u64 (Ω .ci s.2.2)), .d (.i .i64 (Ω .ci s.1))])
   (fun s => [.row true T.uint32 1 (Ψ .lims s.2.1)])
   (fun s => s.1 ≤ m ∧ s.2.1.length = s.1 ∧ lim s.2.1 ∧ s.2.2 ≤ 1 ∧ nv s.2.1 + 4294967296 ^ s.1 * s.2.2 = nv (a.take s.1) + nv (b.take s.1))
   (fun s => m - s.1) (0, [], 0) [1100] ⟨Nat.zero_le _, rfl, lim_nil, Nat.zero_le _, by simp⟩ ⟨rfl, rfl, rfl⟩ ?_
 rintro ⟨i, z, c⟩ ⟨hi, hzl, hzn, hc, he⟩
 simp only at hi hzl hzn hc he
 have g1 := limb1_good a i ha
 have g2 := limb1_good b i hb
 have h1 := nv_take_succ' a i
 have h2 := nv_take_succ' b i
 have l1 := getD_lt ha.lim i
 have l2 := getD_lt hb.lim i
 generalize a.getD i 0 = u at *
 generalize b.getD i 0 = v at *
 have fin : i + 1 ≤ m → (i + 1 ≤ m ∧ (z ++ [(u + v + c) % 4294967296]).length = i + 1 ∧ lim (z ++ [(u + v + c) % 4294967296]) ∧ (u + v + c) / 4294967296 ≤ 1 ∧
     nv (z ++ [(u + v + c) % 4294967296]) + 4294967296 ^ (i + 1) * ((u + v + c) / 4294967296) = nv (a.take (i + 1)) + nv (b.take (i + 1))) := fun hi2 => by
  refine ⟨hi2, by simp [hzl], lim_append.2 ⟨hzn, by simp [lim_cons, lim_nil]; omega⟩, by omega, ?_⟩
  rw [nv_snoc, hzl, h1, h2, Nat.pow_succ]
  exact add_step he
 refine nx ?_
 refine BrG.split (fun h => ?_) (fun h => ?_)
 focus
  have hi2 : i + 1 ≤ m := by have := h; simp only [wz] at this; omega
  refine nx ?_
 rotate_left
 focus
  have hia : a.length ≤ i := by have := h; simp only [wz] at this; omega
  refine nx ?_
  refine BrG.split (fun h => ?_) (fun h => ?_)
  focus
   have hi2 : i + 1 ≤ m := by have := h; simp only [wz] at this; omega
   refine nx ?_
  rotate_left
  focus
   have hi2 : i = m := by have := h; simp only [wz] at this; omega
   subst hi2
   rw [List.take_of_length_le hma, List.take_of_length_le hmb, ← hzl, ← nv_snoc] at he
   have hg := norm1_good (z ++ [c]) ⟨lim_append.2 ⟨hzn, by simp [lim_cons, lim_nil]; omega⟩, by simp; omega⟩
   rw [he] at hg
   refine nx ?_
   rw [wrapu32_ci, Nat.mod_eq_of_lt (by omega)]
   refine ⟨cells_one _ _, (by simp only [wz]; omega), ?_⟩
   rw [scat_snoc]
   refine ⟨_, hC _ _ _ hg, ?_⟩
   exact nx trivial
 all_goals
  refine ⟨_, hC _ _ _ g1, ?_⟩
  refine nx ?_
  refine ⟨_, hC _ _ _ g2, ?_⟩
  refine nx ?_
  have hw : Ω .wrap .u64 (Ω .wrap .u64 (Ω .ci u + Ω .ci v) + Ω .ci c) = Ω .ci (u + v + c) := by
   rw [ci_add, wrapu64_ci, ci_add, wrapu64_ci, Nat.mod_eq_of_lt (by omega), Nat.mod_eq_of_lt (by omega)]
  rw [hw, tmodB, tdivB, wrapu32_ci, Nat.mod_mod, wrapu64_ci, Nat.mod_eq_of_lt (show (u + v + c) / 4294967296 < 18446744073709551616 by omega)]
  refine ⟨cells_one _ _, (by simp only [wz]; omega), (i + 1, z ++ [(u + v + c) % 4294967296], (u + v + c) / 4294967296), [1705], fin hi2, by simp only; omega, rfl, ?_, ?_⟩
  ·refine Eq.trans (b := [.d (dN Ψ a), .d (dN Ψ b), .own 1050 1, .d (.i .u64 (Ω .ci _)), .d (.i .i64 _)]) rfl ?_
   rw [wrap_succ (by omega)]
  ·refine Eq.trans (b := [.row true T.uint32 1 _]) rfl ?_
   rw [scat_snoc]
theorem sub1_good (a b : List Nat) (ha : N a) (hb : N b) (hal : a.length < 549755813888) (h : nv b ≤ nv a) : Good P F.penumbraref01_Sub [.d (dN Ψ a), .d (dN Ψ b)] [] (.tup [.d (dN Ψ (Ψ .cn (nv a - nv b))), .d (.b true)]) [] := by
 refine G.penumbraref01_Sub fun C C2 hC hC2 => ?_
 refine nx ?_
 refine ⟨_, hC _ _ _ (cmp1_good a b ha hb), ?_⟩
 refine nx ?_
 refine BrG.split (fun h => ?_) (fun h => ?_)
 ·have := cmpI_neg.1 (of_decide_eq_true h)
  omega
 refine nx ?_
 refine LoopG.intro (σ := Nat × List Nat × Nat) [0, 1, 6, 7, 8] [1050]
   (fun s => [.d (dN Ψ a), .d (dN Ψ b), .own 1050 1, .d (.i .u64 (Ω .ci s.2.2)), .d (.i .i64 (Ω .ci s.1))])
   (fun s => [.row true T.uint32 1 (Ψ .lims s.2.1)])
   (fun s => s.1 ≤ a.length ∧ s.2.1.length = s.1 ∧ lim s.2.1 ∧ s.2.2 ≤ 1 ∧ nv s.2.1 + nv (b.take s.1) = nv (a.take s.1) + 4294967296 ^ s.1 * s.2.2)
   (fun s => a.length - s.1) (0, [], 0) [1300] ⟨Nat.zero_le _, rfl, lim_nil, Nat.zero_le _, by simp⟩ ⟨rfl, rfl, rfl⟩ ?_
 rintro ⟨i, z, c⟩ ⟨hi, hzl, hzn, hc, he⟩
 simp only at hi hzl hzn hc he
 have g1 := limb1_good a i ha
 have g2 := limb1_good b i hb
 have h1 := nv_take_succ' a i
 have h2 := nv_take_succ' b i
 have l1 := getD_lt ha.lim i
 have l2 := getD_lt hb.lim i
 generalize a.getD i 0 = u at *
 generalize b.getD i 0 = v at *
 refine nx ?_
 refine BrG.split (fun h => ?_) (fun h => ?_)
 ·have hi2 : i + 1 ≤ a.length := by have := h; simp only [wz] at this; omega
  refine nx ?_
  refine ⟨_, hC _ _ _ g1, ?_⟩
  refine nx ?_
  refine ⟨_, hC _ _ _ g2, ?_⟩
  refine nx ?_
  obtain ⟨d, hd⟩ : ∃ d, d = 4294967296 + u - v - c := ⟨_, rfl⟩
  have hw : Ω .wrap .u64 (Ω .wrap .u64 (Ω .wrap .u64 (4294967296 + Ω .ci u) - Ω .ci v) - Ω .ci c) = Ω .ci d := by
   rw [wrapu64, wrapu64, wrapu64]; simp only [wz]; omega
  have hq : d / 4294967296 ≤ 1 := by omega
  have hb2 : Ω .wrap .u64 (1 - Ω .wrap .u64 (Ω .ci (d / 4294967296))) = Ω .ci (1 - d / 4294967296) := by
   rw [wrapu64, wrapu64]; simp only [wz]; omega
  rw [hw, tmodB, tdivB, wrapu32_ci, Nat.mod_mod]
  refine ⟨cells_one _ _, (by simp only [wz]; omega), (i + 1, z ++ [d % 4294967296], 1 - d / 4294967296), [1905], ⟨hi2, by simp [hzl], lim_append.2 ⟨hzn, by simp [lim_cons, lim_nil]; omega⟩, by simp only; omega, ?_⟩, by simp only; omega, rfl, ?_, ?_⟩
  ·simp only
   rw [nv_snoc, hzl, h1, h2, Nat.pow_succ]
   have := sub_step (d := d % 4294967296) (c' := 1 - d / 4294967296) (x := u) (y := v) he (by omega)
   omega
  ·refine Eq.trans (b := [.d (dN Ψ a), .d (dN Ψ b), .own 1050 1, .d (.i .u64 _), .d (.i .i64 _)]) rfl ?_
   rw [wrap_succ (by omega), hb2]
  ·refine Eq.trans (b := [.row true T.uint32 1 _]) rfl ?_
   rw [scat_snoc]
 ·have hi2 : i = a.length := by have := h; simp only [wz] at this; omega
  subst hi2
  rw [List.take_length] at he
  have hbs : nv b = nv (b.take a.length) := by
   rcases Nat.lt_or_ge a.length b.length with q | q
   ·have h3 := nv_split b a.length (by omega)
    have h4 := nv_lt ha.lim
    rcases Nat.eq_zero_or_pos (nv (b.drop a.length)) with q0 | q0
    ·rw [q0] at h3; omega
    ·have := Nat.mul_le_mul_left (4294967296 ^ a.length) q0
     omega
   ·rw [List.take_of_length_le q]
  have hzl' := nv_lt hzn
  rw [hzl] at hzl'
  have hc0 : c = 0 := by
   rcases Nat.eq_zero_or_pos c with q | q
   ·exact q
   ·have : c = 1 := by omega
    subst this
    omega
  subst hc0
  have hz : nv z = nv a - nv b := by omega
  have hg := norm1_good z ⟨hzn, by omega⟩
  rw [hz] at hg
  refine nx ?_
  refine ⟨_, hC _ _ _ hg, ?_⟩
  exact nx trivial
end Go.K.S
end
section
namespace Go.K.S
open Go Go.K
theorem mul1_good (p q : List Nat) (ha : N p) (hb : N q) (hpl : p.length < 274877906944) (hql : q.length < 274877906944) : Good P F.penumbraref01_Mul [.d (dN Ψ p), .d (dN Ψ q)] [] (.d (dN Ψ (Ψ .cn (nv p * nv q)))) [] := by
 refine G.penumbraref01_Mul fun C C2 hC hC2 => ?_
 have hpn := ha.lim
 have hqn := hb.lim
 refine nx ?_
 rw [wrap_add (by omega), wrap_succ (by omega)]
 refine ⟨ci_nonneg _, Int.le_refl _, by simp only [wz]; omega, by simp only [wz]; omega, ?_⟩
 refine LoopG.intro (σ := Nat × List Nat) [0, 1, 5, 6] [1050]
  (fun s => [.d (dN Ψ p), .d (dN Ψ q), .own 1050 1, .d (.i .i64 (Ω .ci s.1))])
  (fun s => [.row true T.uint32 1 (Ψ .lims s.2)])
  (fun s => s.1 ≤ p.length ∧ s.2.length = p.length + q.length + 1 ∧ lim s.2 ∧ nv (s.2.drop (s.1 + q.length)) = 0 ∧ nv (s.2.take (s.1 + q.length)) = nv (p.take s.1) * nv q)
  (fun s => p.length - s.1) (0, List.replicate (p.length + q.length + 1) 0) [1106] ⟨Nat.zero_le _, by simp, lim_rep _, by simp only [List.drop_replicate, nv_rep], by simp [nv_rep]⟩ ⟨rfl, rfl, ?_⟩ ?_
 ·refine Eq.trans (b := [.row true T.uint32 1 _]) rfl ?_
  rw [← srep_lims]
  rfl
 rintro ⟨i, z⟩ ⟨hi, hzl, hzn, hz0, he⟩
 simp only at hi hzl hzn hz0 he
 refine nx ?_
 refine BrG.split (fun h => ?_) (fun h => ?_)
 ·have hi2 : i < p.length := by have := h; simp only [wz] at this; omega
  obtain ⟨u, hu⟩ : ∃ u, p[i]? = some u := ⟨_, List.getElem?_eq_getElem hi2⟩
  have hul := lim_get hpn hu
  refine nx ?_
  refine LoopG.intro (σ := Nat × List Nat × Nat) [0, 1, 5, 6, 7, 8] [1051]
   (fun s => [.d (dN Ψ p), .d (dN Ψ q), .own 1051 1, .d (.i .i64 (Ω .ci i)), .d (.i .u64 (Ω .ci s.2.2)), .d (.i .i64 (Ω .ci s.1))])
   (fun s => [.row true T.uint32 1 (Ψ .lims s.2.1)])
   (fun s => s.1 ≤ q.length ∧ s.2.1.length = p.length + q.length + 1 ∧ lim s.2.1 ∧ s.2.2 < 4294967296 ∧ s.2.1.drop (i + q.length) = z.drop (i + q.length) ∧ nv (s.2.1.take (i + q.length)) + 4294967296 ^ (i + s.1) * s.2.2 = nv (z.take (i + q.length)) + 4294967296 ^ i * u * nv (q.take s.1))
   (fun s => q.length - s.1) (0, z, 0) [1050] ⟨Nat.zero_le _, hzl, hzn, by simp only; omega, rfl, by simp⟩ ⟨rfl, rfl, rfl⟩ ?_
  rintro ⟨k, w, c⟩ ⟨hk, hwl, hwn, hc, hwd, hw⟩
  simp only at hk hwl hwn hc hwd hw
  refine nx ?_
  refine BrG.split (fun h => ?_) (fun h => ?_)
  ·have hk2 : k < q.length := by have := h; simp only [wz] at this; omega
   obtain ⟨v, hv⟩ : ∃ v, q[k]? = some v := ⟨_, List.getElem?_eq_getElem hk2⟩
   obtain ⟨o, ho⟩ : ∃ o, w[i + k]? = some o := ⟨_, List.getElem?_eq_getElem (by omega)⟩
   have hvl := lim_get hqn hv
   have hol := lim_get hwn ho
   refine nx ?_
   refine idx_lims i u rfl hu rfl ?_
   refine nx ?_
   refine idx_lims k v rfl hv rfl ?_
   refine nx ?_
   have hix : Ω .wrap .i64 (Ω .ci i + Ω .ci k) = Ω .ci (i + k) := wrap_add (by omega)
   refine own_lims (i + k) o hix ho ?_ ?_ ?_
   ·exact Nat.le_refl _
   ·exact rfl
   refine nx ?_
   rw [hix, wrapu64_ci, wrapu64_ci, wrapu64_ci, ci_mul, wrapu64_ci, ci_add, wrapu64_ci, ci_add, wrapu64_ci]
   have hfit := mul_fits hul hvl hol hc
   have ht : ((u % 18446744073709551616 * (v % 18446744073709551616) % 18446744073709551616 + o % 18446744073709551616) % 18446744073709551616 + c) % 18446744073709551616 = u * v + o + c := by
    rw [Nat.mod_eq_of_lt (show u < 18446744073709551616 by omega), Nat.mod_eq_of_lt (show v < 18446744073709551616 by omega)]
    omega
   rw [ht, tmodB, tdivB]
   refine ⟨ci_nonneg _, by simp only [wz]; omega, by simp only [wz]; omega, (k + 1, w.set (i + k) ((u * v + o + c) % 4294967296), (u * v + o + c) / 4294967296), [1051], ⟨hk2, by simp [hwl], lim_set hwn _ (by omega), by simp only; omega, ?_, ?_⟩, by simp only; omega, rfl, ?_, ?_⟩
   ·simp only
    rw [List.drop_set_of_lt (by omega), hwd]
   ·simp only
    rw [List.take_set, nv_take_succ hv]
    have ho' : (w.take (i + q.length))[i + k]? = some o := by rw [List.getElem?_take, if_pos (by omega)]; exact ho
    have hz := nv_set ho' ((u * v + o + c) % 4294967296)
    have := mul_step (b := 4294967296 ^ i) (B' := 4294967296 ^ k) (M := 4294967296 ^ (i + k)) rfl hw hz ⟨_, Nat.pow_add _ _ _⟩ (Nat.pow_add _ _ _)
    rw [show i + (k + 1) = (i + k) + 1 by omega, Nat.pow_succ]
    exact this
   ·refine Eq.trans (b := [.d (dN Ψ p), .d (dN Ψ q), .own 1051 1, .d (.i .i64 (Ω .ci i)), .d (.i .u64 _), .d (.i .i64 _)]) rfl ?_
    rw [wrap_succ (by omega), wrapu64_ci, Nat.mod_eq_of_lt (Nat.lt_of_le_of_lt (Nat.div_le_self _ _) hfit)]
   ·refine Eq.trans (b := [.row true T.uint32 1 _]) rfl ?_
    rw [tn_ci, wrapu32_ci, Nat.mod_mod, sset_lims]
  ·have hk2 : k = q.length := by have := h; simp only [wz] at this; omega
   subst hk2
   refine nx ?_
   rw [wrap_add (by omega)]
   rw [List.take_length] at hw
   obtain ⟨o, ho⟩ : ∃ o, w[i + q.length]? = some o := ⟨_, List.getElem?_eq_getElem (by omega)⟩
   refine ⟨ci_nonneg _, by simp only [wz]; omega, by simp only [wz]; omega, (i + 1, w.set (i + q.length) c, ), [1051], ⟨hi2, by simp [hwl], lim_set hwn _ hc, ?_, ?_⟩, by simp only; omega, rfl, ?_, ?_⟩
   ·simp only
    rw [List.drop_set_of_lt (by omega), show i + 1 + q.length = (i + q.length) + 1 by omega, ← List.drop_drop, hwd, List.drop_drop]
    have := nv_drop (l := z) (k := i + q.length) (v := z[i + q.length]'(by omega)) (List.getElem?_eq_getElem (by omega))
    omega
   ·simp only
    have ho' : (w.set (i + q.length) c)[i + q.length]? = some c := by
     have := (List.getElem?_eq_some_iff.1 ho).1
     simp [this]
    rw [show i + 1 + q.length = (i + q.length) + 1 by omega, nv_take_succ ho', List.take_set_of_le (Nat.le_refl _), hw, he, nv_take_succ hu, Nat.add_mul]
   ·refine Eq.trans (b := [.d (dN Ψ p), .d (dN Ψ q), .own 1050 1, .d (.i .i64 _)]) rfl ?_
    rw [wrap_succ (by omega)]
   ·refine Eq.trans (b := [.row true T.uint32 1 _]) rfl ?_
    rw [tn_ci, wrapu32_ci, Nat.mod_eq_of_lt hc, sset_lims]
 ·have hi2 : i = p.length := by have := h; simp only [wz] at this; omega
  subst hi2
  have hall : nv z = nv p * nv q := by
   have := nv_split z (p.length + q.length) (by omega)
   rw [hz0, he, List.take_length, Nat.mul_zero, Nat.add_zero] at this
   exact this
  have hg := norm1_good z ⟨hzn, by omega⟩
  rw [hall] at hg
  refine nx ?_
  refine ⟨_, hC _ _ _ hg, ?_⟩
  exact nx trivial
end Go.K.S
end
section
namespace Go.K
theorem double_step {M zv c X x : Nat} (h : zv + M * c = 2 * X) : zv + M * ((2 * x + c) % 4294967296) + M * 4294967296 * ((2 * x + c) / 4294967296) = 2 * (X + M * x) := by
 have h1 := Nat.mod_add_div (2 * x + c) 4294967296
 have h2 : M * ((2 * x + c) % 4294967296) + M * 4294967296 * ((2 * x + c) / 4294967296) = M * (2 * x + c) := by
  rw [Nat.mul_assoc, ← Nat.mul_add, h1]
 rw [Nat.add_assoc, h2, Nat.mul_add, Nat.mul_left_comm]
 omega
theorem half_drop (l : List Nat) (k : Nat) : nv (l.drop k) / 2 = (nv (l.drop (k + 1)) % 2 * 4294967296 + l.getD k 0) / 2 + 4294967296 * (nv (l.drop (k + 1)) / 2) := by
 rw [getD_take_drop k]
 omega
theorem mod2_drop (l : List Nat) (k : Nat) : nv (l.drop k) % 2 = l.getD k 0 % 2 := by
 rw [getD_take_drop k]
 omega
end Go.K
namespace Go.K.S
open Go Go.K
theorem double1_good (a : List Nat) (ha : N a) (hal : a.length < 549755813888) : Good P F.penumbraref01_Double [.d (dN Ψ a), .d (.b false)] [] (.d (dN Ψ (Ψ .cn (2 * nv a)))) [] := by
 refine G.penumbraref01_Double fun C C2 hC hC2 => ?_
 have han := ha.lim
 refine nx ?_
 refine LoopG.intro (σ := Nat × List Nat × Nat) [0, 5, 6, 7] [1050]
   (fun s => [.d (dN Ψ a), .own 1050 1, .d (.i .u64 (Ω .ci s.2.2)), .d (.i .i64 (Ω .ci s.1))])
   (fun s => [.row true T.uint32 1 (Ψ .lims s.2.1)])
   (fun s => s.1 ≤ a.length ∧ s.2.1.length = s.1 ∧ lim s.2.1 ∧ s.2.2 ≤ 1 ∧ nv s.2.1 + 4294967296 ^ s.1 * s.2.2 = 2 * nv (a.take s.1))
   (fun s => a.length - s.1) (0, [], 0) [1100] ⟨Nat.zero_le _, rfl, lim_nil, Nat.zero_le _, by simp⟩ ⟨rfl, rfl, rfl⟩ ?_
 rintro ⟨i, z, c⟩ ⟨hi, hzl, hzn, hc, he⟩
 simp only at hi hzl hzn hc he
 refine nx ?_
 refine BrG.split (fun h => ?_) (fun h => ?_)
 ·have hi2 : i < a.length := by have := h; simp only [wz] at this; omega
  obtain ⟨u, hu⟩ : ∃ u, a[i]? = some u := ⟨_, List.getElem?_eq_getElem hi2⟩
  have hul := lim_get han hu
  refine nx ?_
  refine idx_lims i u rfl hu rfl ?_
  refine nx ?_
  have hw : Ω .wrap .u64 (Ω .wrap .u64 (2 * Ω .wrap .u64 (Ω .ci u)) + Ω .ci c) = Ω .ci (2 * u + c) := by
   rw [wrapu64_ci, wrapu64, wrapu64]; simp only [wz]; omega
  rw [hw, tmodB, tdivB, wrapu32_ci, Nat.mod_mod]
  refine ⟨cells_one _ _, (by simp only [wz]; omega), (i + 1, z ++ [(2 * u + c) % 4294967296], (2 * u + c) / 4294967296), [1905], ⟨hi2, by simp [hzl], lim_append.2 ⟨hzn, by simp [lim_cons, lim_nil]; omega⟩, by simp only; omega, ?_⟩, by simp only; omega, rfl, ?_, ?_⟩
  ·simp only
   rw [nv_snoc, hzl, nv_take_succ hu, Nat.pow_succ]
   exact double_step he
  ·refine Eq.trans (b := [.d (dN Ψ a), .own 1050 1, .d (.i .u64 _), .d (.i .i64 _)]) rfl ?_
   rw [wrap_succ (by omega), wrapu64_ci, Nat.mod_eq_of_lt (show (2 * u + c) / 4294967296 < 18446744073709551616 by omega)]
  ·refine Eq.trans (b := [.row true T.uint32 1 _]) rfl ?_
   rw [scat_snoc]
 ·have hi2 : i = a.length := by have := h; simp only [wz] at this; omega
  subst hi2
  rw [List.take_length, ← hzl, ← nv_snoc] at he
  have hg := norm1_good (z ++ [c]) ⟨lim_append.2 ⟨hzn, by simp [lim_cons, lim_nil]; omega⟩, by simp; omega⟩
  rw [he] at hg
  refine nx ?_
  rw [wrapu32_ci, Nat.mod_eq_of_lt (show c < 4294967296 by omega)]
  refine ⟨cells_one _ _, (by simp only [wz]; omega), ?_⟩
  rw [scat_snoc]
  refine ⟨_, hC _ _ _ hg, ?_⟩
  exact nx trivial
theorem half1_good (a : List Nat) (ha : N a) : Good P F.penumbraref01_Half [.d (dN Ψ a)] [] (.d (dN Ψ (Ψ .cn (nv a / 2)))) [] := by
 refine G.penumbraref01_Half fun C C2 hC hC2 => ?_
 have han := ha.lim
 have hal := ha.len
 refine nx ?_
 refine LoopG.intro (σ := Nat × List Nat) [0, 3, 4] [1050]
   (fun s => [.d (dN Ψ a), .own 1050 1, .d (.i .i64 (Ω .ci s.1))])
   (fun s => [.row true T.uint32 1 (Ψ .lims s.2)])
   (fun s => s.1 ≤ a.length ∧ s.2.length = s.1 ∧ lim s.2 ∧ nv s.2 + 4294967296 ^ s.1 * (nv (a.drop s.1) / 2) = nv a / 2)
   (fun s => a.length - s.1) (0, []) [1100] ⟨Nat.zero_le _, rfl, lim_nil, by simp⟩ ⟨rfl, rfl, rfl⟩ ?_
 rintro ⟨i, z⟩ ⟨hi, hzl, hzn, he⟩
 simp only at hi hzl hzn he
 refine nx ?_
 refine BrG.split (fun h => ?_) (fun h => ?_)
 ·have hi2 : i < a.length := by have := h; simp only [wz] at this; omega
  obtain ⟨u, hu⟩ : ∃ u, a[i]? = some u := ⟨_, List.getElem?_eq_getElem hi2⟩
  have hul := lim_get han hu
  have hud : a.getD i 0 = u := by simp [List.getD, hu]
  have g1 := limb1_good a (i + 1) ha
  have hhd := half_drop a i
  rw [mod2_drop, hud] at hhd
  have l1 := getD_lt han (i + 1)
  generalize a.getD (i + 1) 0 = v at *
  obtain ⟨x, hx⟩ : ∃ x, x = (v % 2 * 4294967296 + u) / 2 := ⟨_, rfl⟩
  rw [← hx] at hhd
  refine nx ?_
  rw [wrap_succ (by omega)]
  refine ⟨_, hC _ _ _ g1, ?_⟩
  refine nx ?_
  refine idx_lims i u rfl hu rfl ?_
  refine nx ?_
  have hw : Ω .wrap .u64 (Ω .wrap .u64 (Ω .tmod (Ω .ci v) 2 * 4294967296) + Ω .wrap .u64 (Ω .ci u)) = Ω .ci (v % 2 * 4294967296 + u) := by
   rw [tmod2, wrapu64_ci, wrapu64, wrapu64]; simp only [wz]; omega
  rw [hw, tdiv2, ← hx, wrapu64_ci, wrapu32_ci, Nat.mod_eq_of_lt (show x < 18446744073709551616 by omega), Nat.mod_eq_of_lt (show x < 4294967296 by omega)]
  refine ⟨cells_one _ _, (by simp only [wz]; omega), (i + 1, z ++ [x]), [1516], ⟨hi2, by simp [hzl], lim_append.2 ⟨hzn, by simp [lim_cons, lim_nil]; omega⟩, ?_⟩, by simp only; omega, rfl, ?_, ?_⟩
  ·simp only
   rw [nv_snoc, hzl, Nat.pow_succ, Nat.mul_assoc, Nat.add_assoc, ← Nat.mul_add, ← hhd]
   exact he
  ·refine Eq.trans (b := [.d (dN Ψ a), .own 1050 1, .d (.i .i64 _)]) rfl ?_
   rw [wrap_succ (by omega)]
  ·refine Eq.trans (b := [.row true T.uint32 1 _]) rfl ?_
   rw [scat_snoc]
 ·have hi2 : i = a.length := by have := h; simp only [wz] at this; omega
  subst hi2
  rw [List.drop_length] at he
  have hg := norm1_good z ⟨hzn, by omega⟩
  rw [show nv z = nv a / 2 by simpa using he] at hg
  refine nx ?_
  refine ⟨_, hC _ _ _ hg, ?_⟩
  exact nx trivial
theorem at1_good (x k : Nat) (hx : x < 18446744073709551616) (hk : k < 549755813888) : Good P F.penumbraref01_at [.d (.i .u64 (Ω .ci x)), .d (.i .i64 (Ω .ci k))] []
  (.d (dN Ψ (List.replicate k 0 ++ [x % 4294967296, x / 4294967296]))) [] := by
 refine G.penumbraref01_at fun C C2 hC hC2 => ?_
 obtain ⟨R, hR⟩ : ∃ R, R = List.replicate k 0 ++ [x % 4294967296, x / 4294967296] := ⟨_, rfl⟩
 rw [← hR]
 refine nx ?_
 rw [tmodB, tdivB, wrapu64_ci, wrapu32_ci, wrapu32_ci, Nat.mod_mod, Nat.mod_eq_of_lt (show x / 4294967296 < 18446744073709551616 by omega), Nat.mod_eq_of_lt (show x / 4294967296 < 4294967296 by omega)]
 refine ⟨ci_nonneg _, Int.le_refl _, by simp only [wz]; omega, by simp only [wz]; omega, ?_⟩
 rw [srep_lims, slen_lims, List.length_replicate]
 refine ⟨fun u hu => by simp only [List.mem_cons, List.not_mem_nil, or_false] at hu; rcases hu with rfl | rfl <;> rfl, (by simp only [wz]; omega), ?_⟩
 rw [lims_nil, lims_cons, lims_cons, scat_lims, hR]
end Go.K.S
end
section
namespace Go.K
theorem nv_at (k x : Nat) : nv (List.replicate k 0 ++ [x % 4294967296, x / 4294967296]) = 4294967296 ^ k * x := by
 rw [nv_append, nv_rep, List.length_replicate, Nat.zero_add]
 congr 1
 simp only [nv_cons, nv_nil]
 omega
theorem times_ok {L D t top M x M' K : Nat} (hL : M * x ≤ L) (hD : D < M' * top) (hK : M' * K = M) (ht : t * top ≤ x) : K * t * D ≤ L := by
 have h1 : K * t * D ≤ K * t * (M' * top) := Nat.mul_le_mul_left _ (Nat.le_of_lt hD)
 have h2 : K * t * (M' * top) = M * (t * top) := by rw [← hK]; ac_rfl
 have h3 := Nat.mul_le_mul_left M ht
 omega
theorem div_inv {q D k t L A : Nat} (h : q * D + L = A) (hle : k * t * D ≤ L) : (q + k * t) * D + (L - k * t * D) = A := by
 rw [Nat.add_mul]; omega
theorem halves (L n : Nat) : L / 2 ^ n / 2 = L / 2 ^ (n + 1) := by rw [Nat.div_div_eq_div_mul, Nat.pow_succ]
end Go.K
namespace Go.K.S
open Go Go.K
theorem divmod1_good (a b : List Nat) (ha : N a) (hb : N b) (hal : a.length < 137438953472) (hbl : b.length < 137438953472) (hb0 : nv b ≠ 0) :
  Good P F.penumbraref01_DivMod [.d (dN Ψ a), .d (dN Ψ b)] [] (.tup [.d (dN Ψ (Ψ .cn (nv a / nv b))), .d (dN Ψ (Ψ .cn (nv a % nv b))), .d (.b true)]) [] := by
 refine G.penumbraref01_DivMod fun C C2 hC hC2 => ?_
 have g1 := zero1_good b hb
 rw [decide_eq_false hb0] at g1
 have g2 := norm1_good b hb
 have g3 := norm1_good a ha
 obtain ⟨m0, hm0⟩ : ∃ m, m = 137438953473 := ⟨_, rfl⟩
 have hB0 : nv b < 4294967296 ^ b.length := nv_lt hb.lim
 have hA0 : nv a < 4294967296 ^ a.length := nv_lt ha.lim
 generalize nv a = X at *
 obtain ⟨Y, hY⟩ : ∃ Y, Y = nv b := ⟨_, rfl⟩
 rw [← hY] at g2 hB0 hb0 ⊢
 refine nx ?_
 refine ⟨_, hC _ _ _ g1, ?_⟩
 refine nx ?_
 refine ⟨_, hC _ _ _ g2, ?_⟩
 refine nx ?_
 refine ⟨_, hC _ _ _ g3, ?_⟩
 refine nx ?_
 refine LoopG.intro (σ := Nat × Nat) [7, 8, 9] []
   (fun s => [.d (dN Ψ (Ψ .cn (Y * 2 ^ s.1))), .d (dN Ψ (Ψ .cn (X * 2 ^ s.1))), .d (.i .i64 (Ω .ci s.1))])
   (fun _ => [])
   (fun s => s.2 = s.1 ∧ (Ψ .cn (Y * 2 ^ s.1)).length = (Ψ .cn Y).length ∧ s.1 ≤ 32)
   (fun s => 32 - s.1) (0, 0) [] ⟨rfl, by simp, by simp⟩ ⟨rfl, ?_, rfl⟩ ?_
 ·simp only [Nat.pow_zero, Nat.mul_one]
  rfl
 rintro ⟨s, s'⟩ ⟨hs', hYl, hs⟩
 simp only at hs' hYl hs
 have hD0 : Y * 2 ^ s ≠ 0 := Nat.mul_ne_zero hb0 (Nat.ne_of_gt (Nat.pow_pos (by omega)))
 have hdiv : ∀ q L, q * (Y * 2 ^ s) + L = X * 2 ^ s → L < Y * 2 ^ s → X / Y = q ∧ L / 2 ^ s = X % Y := fun q L h1 h2 => by
  obtain ⟨e1, e2⟩ := divmod_unique h1 h2
  have hp2 : 0 < 2 ^ s := Nat.pow_pos (by omega)
  rw [Nat.mul_div_mul_right _ _ hp2] at e1
  rw [Nat.mul_mod_mul_right] at e2
  exact ⟨e1, by rw [← e2, Nat.mul_div_cancel _ hp2]⟩
 have hdY : ∀ s, Y * 2 ^ (s + 1) = 2 * (Y * 2 ^ s) := fun s => by rw [Nat.pow_succ]; ac_rfl
 have hdX : X * 2 ^ (s + 1) = 2 * (X * 2 ^ s) := by rw [Nat.pow_succ]; ac_rfl
 have hYl0 : (Ψ .cn Y).length ≤ b.length := len_cn.2 hB0
 have hLl : (Ψ .cn (X * 2 ^ s)).length ≤ a.length + 1 := by
  refine len_cn.2 ?_
  have h2 : 2 ^ s ≤ 4294967296 := Nat.pow_le_pow_right (n := 2) (by omega) hs
  rw [Nat.pow_succ]
  exact Nat.lt_of_lt_of_le (Nat.mul_lt_mul_of_pos_right hA0 (Nat.pow_pos (by omega))) (Nat.mul_le_mul_left _ h2)
 obtain ⟨D, hD⟩ : ∃ D, D = Y * 2 ^ s := ⟨_, rfl⟩
 obtain ⟨L0, hL0⟩ : ∃ L, L = X * 2 ^ s := ⟨_, rfl⟩
 rw [← hD] at hD0 hYl hdiv ⊢
 rw [← hL0] at hdiv hdX hLl ⊢
 have hdYs := hdY s
 rw [← hD] at hdYs
 obtain ⟨x, m, hlen, hx, hx0, hxl, hup, hlo, hsp⟩ := cn_top hD0
 have gD := double1_good (Ψ .cn D) ⟨lim_cn _, by omega⟩ (by omega)
 have gL := double1_good (Ψ .cn L0) ⟨lim_cn _, by omega⟩ (by omega)
 rw [nv_cn, ← hdYs] at gD
 rw [nv_cn, ← hdX] at gL
 have hDlen : (Ψ .cn D).length = m + 1 := hlen
 have hw1 : Ω .wrap .i64 (Ω .ci (Ψ .cn D).length - 1) = Ω .ci m := by rw [hlen, wrap_pred (by omega) (by omega)]; rfl
 refine nx ?_
 refine idx_lims m x hw1 hx rfl ?_
 refine nx ?_
 (generalize hq : Ω .lt (Ω .ci x) 2147483648 = q; refine BrG.split (fun h => ?_) (fun h => ?_) <;> subst hq)
 ·have hsm : x < 2147483648 := by have := h; simp only [wz] at this; omega
  refine nx ?_
  refine ⟨_, hC _ _ _ gD, ?_⟩
  refine nx ?_
  refine ⟨_, hC _ _ _ gL, ?_⟩
  refine nx ?_
  have hs31 : s < 32 := by
   rcases Nat.lt_or_ge s 32 with c | c
   ·exact c
   ·exfalso
    have hs32 : s = 32 := by omega
    subst hs32
    have hge := cn_ge (n := Y) (k := m) (by omega)
    have h1 := Nat.mul_le_mul_right (2 ^ 32) hge
    have h2 := Nat.mul_le_mul_left (4294967296 ^ m) (show x + 1 ≤ 2 ^ 32 by omega)
    omega
  refine ⟨(s + 1, s + 1), [], ⟨rfl, ?_, hs31⟩, by simp only; omega, rfl, ?_, rfl⟩
  ·simp only
   rw [hdYs, ← hYl]
   refine Nat.le_antisymm ?_ (len_cn_eq (by omega))
   rw [hlen]
   refine len_cn.2 ?_
   have h2 := Nat.mul_le_mul_left (4294967296 ^ m) (show 2 * (x + 1) ≤ 4294967296 by omega)
   rw [Nat.pow_succ]
   rw [Nat.mul_left_comm] at h2
   omega
  ·refine Eq.trans (b := [V.d (dN Ψ (Ψ .cn (Y * 2 ^ (s + 1)))), V.d (dN Ψ (Ψ .cn (X * 2 ^ (s + 1)))), V.d (.i .i64 _)]) rfl ?_
   rw [wrap_succ (by omega)]
 ·have hbig : 2147483648 ≤ x := by have := h; simp only [wz] at this; omega
  clear gD gL hdYs hdX hdY
  refine nx ?_
  refine idx_lims m x hw1 hx rfl ?_
  refine nx ?_
  have htop : Ω .wrap .u64 (Ω .wrap .u64 (Ω .ci x) + 1) = Ω .ci (x + 1) := by
   rw [wrapu64_ci, wrapu64]; simp only [wz]; omega
  rw [htop]
  have hDl2 : D < 4294967296 ^ m * (x + 1) := hup
  refine LoopG.intro (σ := Bool × Nat × Nat) [7, 8, 9, 10, 11, 12] [1050]
   (fun u => [.d (dN Ψ (Ψ .cn D)), .d (dN Ψ (Ψ .cn u.2.2)), .d (.i .i64 (Ω .ci s)), if u.1 then .own 1050 1 else .d (dN Ψ (Ψ .cn u.2.1)), .d (.i .i64 (Ω .ci (m + 1))), .d (.i .u64 (Ω .ci (x + 1)))])
   (fun u => [.row u.1 T.uint32 1 (Ψ .lims (Ψ .cn 0))])
   (fun u => (u.1 = true → u.2.1 = 0) ∧ u.2.1 * D + u.2.2 = L0)
   (fun u => u.2.2) (true, 0, L0) [2000] ⟨(by first | exact rfl | exact fun _ => rfl), by simp⟩ ⟨rfl, ?_, ?_⟩ ?_
  ·refine Eq.trans (b := [V.d (dN Ψ (Ψ .cn D)), V.d (dN Ψ (Ψ .cn L0)), V.d (.i .i64 (Ω .ci s)), .own 1050 1, V.d (.i .i64 _), V.d (.i .u64 _)]) rfl ?_
   rw [hlen]; rfl
  ·refine Eq.trans (b := [.row true T.uint32 1 (Ψ .lims [])]) rfl ?_
   rw [← cn_zero]
  rintro ⟨fr, q, L⟩ ⟨hfr, hinv⟩
  simp only at hfr hinv
  have hLL : L ≤ L0 := by omega
  have hqL : q ≤ L0 := by
   have := Nat.le_mul_of_pos_right q (Nat.pos_of_ne_zero hD0)
   omega
  have hLlen := len_cn_eq hLL
  have hqlen := len_cn_eq hqL
  have gc := cmp1_good (Ψ .cn L) (Ψ .cn D) ⟨lim_cn _, by omega⟩ ⟨lim_cn _, by omega⟩
  rw [nv_cn, nv_cn] at gc
  refine nx ?_
  refine ⟨_, hC _ _ _ gc, ?_⟩
  refine nx ?_
  refine BrG.split (fun h => ?_) (fun h => ?_)
  ·have hge : D ≤ L := by have := of_decide_eq_true h; exact cmpI_nonneg.1 this
   obtain ⟨y, p, hplen, hy, hy0, hyl, hyup, hylo, hysp⟩ := cn_top (show L ≠ 0 by omega)
   have hpm : m ≤ p := by have := len_cn_eq hge; omega
   have hv1 : Ω .wrap .i64 (Ω .ci (Ψ .cn L).length - Ω .ci (m + 1)) = Ω .ci (p - m) := by
    rw [hplen, wrap_sub (by omega) (by omega), show p + 1 - (m + 1) = p - m by omega]
   have hv2 : Ω .wrap .i64 (Ω .ci (Ψ .cn L).length - 1) = Ω .ci p := by rw [hplen, wrap_pred (by omega) (by omega)]; rfl
   have hxne : Ω .ci (x + 1) ≠ 0 := by simp only [wz]; omega
   refine nx ?_
   rw [hv1]
   refine idx_lims p y hv2 hy rfl ?_
   refine nx ?_
   refine ⟨hxne, ?_⟩
   have hw3 : Ω .wrap .u64 ((Ω .wrap .u64 (Ω .ci y)).tdiv (Ω .ci (x + 1))) = Ω .ci (y / (x + 1)) := by
    rw [wrapu64_ci, tdiv_ci, wrapu64_ci, Nat.mod_eq_of_lt (show y < 18446744073709551616 by omega), Nat.mod_eq_of_lt]
    exact Nat.lt_of_le_of_lt (Nat.div_le_self _ _) (by omega)
   rw [hw3]
   obtain ⟨t0, ht0d⟩ : ∃ t, t = y / (x + 1) := ⟨_, rfl⟩
   rw [← ht0d]
   have hpow : 4294967296 ^ m * 4294967296 ^ (p - m) = 4294967296 ^ p := by rw [← Nat.pow_add, show m + (p - m) = p by omega]
   refine BrG.split (fun h => ?_) (fun h => ?_)
   focus
    have ht0 : t0 = 0 := by simp [wz] at h; first | omega | (have := of_decide_eq_true h; omega)
    rw [ht0]
    refine nx ?_
    refine BrG.split (fun h => ?_) (fun h => ?_)
    focus
     have hgt : m < p := by have := of_decide_eq_true h; rw [hplen] at this; simp only [wz] at this; omega
     obtain ⟨z, hz⟩ : ∃ z, (Ψ .cn L)[p - 1]? = some z := ⟨_, List.getElem?_eq_getElem (by omega)⟩
     have hzl := lim_get (lim_cn _) hz
     have hv4 : Ω .wrap .i64 (Ω .ci (Ψ .cn L).length - 2) = Ω .ci (p - 1) := by
      rw [hplen, wrap64 (by simp only [wz]; omega) (by simp only [wz]; omega)]; simp only [wz]; omega
     refine nx ?_
     refine idx_lims p y hv2 hy rfl ?_
     refine nx ?_
     refine idx_lims (p - 1) z hv4 hz rfl ?_
     refine nx ?_
     refine ⟨hxne, ?_⟩
     obtain ⟨k, hk⟩ : ∃ k, k = p - m - 1 := ⟨_, rfl⟩
     obtain ⟨t, ht⟩ : ∃ t, t = (y * 4294967296 + z) / (x + 1) := ⟨_, rfl⟩
     have hw4 : Ω .wrap .u64 ((Ω .wrap .u64 (Ω .wrap .u64 (Ω .wrap .u64 (Ω .ci y) * 4294967296) + Ω .wrap .u64 (Ω .ci z))).tdiv (Ω .ci (x + 1))) = Ω .ci t := by
      have e1 : Ω .wrap .u64 (Ω .wrap .u64 (Ω .wrap .u64 (Ω .ci y) * 4294967296) + Ω .wrap .u64 (Ω .ci z)) = Ω .ci (y * 4294967296 + z) := by
       rw [wrapu64_ci, wrapu64_ci, wrapu64, wrapu64]; simp only [wz]; omega
      rw [e1, tdiv_ci, ← ht, wrapu64_ci, Nat.mod_eq_of_lt]
      rw [ht]
      exact Nat.lt_of_le_of_lt (Nat.div_le_self _ _) (by omega)
     have hw5 : Ω .wrap .i64 (Ω .ci (p - m) - 1) = Ω .ci k := by rw [wrap_pred (by omega) (by omega), hk]
     rw [hw4, hw5]
     have htpos : t ≠ 0 := by
      rw [ht]
      have : 1 ≤ (y * 4294967296 + z) / (x + 1) := (Nat.le_div_iff_mul_le (by omega)).2 (by omega)
      omega
     have htl : t < 18446744073709551616 := by
      rw [ht]
      exact Nat.lt_of_le_of_lt (Nat.div_le_self _ _) (by omega)
     have hok : 4294967296 ^ k * t * D ≤ L := by
      have hz2 := nv_take_succ hz
      rw [show p - 1 + 1 = p by omega] at hz2
      refine times_ok (M := 4294967296 ^ (p - 1)) (x := y * 4294967296 + z) ?_ hDl2 ?_ (by rw [ht]; exact Nat.div_mul_le_self _ _)
      ·rw [hysp, hz2, Nat.mul_add, show 4294967296 ^ (p - 1) * (y * 4294967296) = 4294967296 ^ p * y by
        rw [show 4294967296 ^ p = 4294967296 ^ (p - 1) * 4294967296 by rw [← Nat.pow_succ, show (p - 1).succ = p by omega]]; ac_rfl]
       omega
      ·rw [← Nat.pow_add, show m + k = p - 1 by omega]
     have hkl : k ≤ a.length := by omega
     refine BrG.split (fun h => ?_) (fun h => ?_)
     ·exfalso; simp [wz] at h; first | omega | (have := of_decide_eq_true h; omega)
     refine nx ?_
    rotate_left
    focus
     have hgt : p = m := by have := of_decide_eq_false h; rw [hplen] at this; simp only [wz] at this; omega
     obtain ⟨k, hk⟩ : ∃ k, k = p - m := ⟨_, rfl⟩
     obtain ⟨t, ht⟩ : ∃ t, t = 1 := ⟨_, rfl⟩
     have htpos : t ≠ 0 := by omega
     have htl : t < 18446744073709551616 := by omega
     have hok : 4294967296 ^ k * t * D ≤ L := by
      rw [hk, ht, hgt, Nat.sub_self]; omega
     have hkl : k ≤ a.length := by omega
     rw [← hk]
     refine nx ?_
     refine BrG.split (fun h => ?_) (fun h => ?_)
     rotate_left
     ·exfalso; have := h; simp only [wz] at this; omega
     refine nx ?_
     rw [show (1 : Int) = Ω .ci t by rw [ht]; rfl]
   rotate_left 2
   focus
    have ht0 : t0 ≠ 0 := by simp [wz] at h; first | omega | (have := of_decide_eq_false h; omega)
    obtain ⟨k, hk⟩ : ∃ k, k = p - m := ⟨_, rfl⟩
    obtain ⟨t, ht'⟩ : ∃ t, t = t0 := ⟨_, rfl⟩
    have ht : t = y / (x + 1) := by rw [ht', ht0d]
    have htpos : t ≠ 0 := by omega
    have htl : t < 18446744073709551616 := by
     rw [ht]
     exact Nat.lt_of_le_of_lt (Nat.div_le_self _ _) (by omega)
    have hok : 4294967296 ^ k * t * D ≤ L := times_ok hylo hDl2 (by rw [hk]; exact hpow) (by rw [ht]; exact Nat.div_mul_le_self _ _)
    have hkl : k ≤ a.length := by omega
    rw [← hk, ← ht']
    refine nx ?_
    refine BrG.split (fun h => ?_) (fun h => ?_)
    ·exfalso; simp [wz] at h; first | omega | (have := of_decide_eq_true h; omega)
    refine nx ?_
   all_goals
    obtain ⟨S, hS⟩ : ∃ S, S = List.replicate k 0 ++ [t % 4294967296, t / 4294967296] := ⟨_, rfl⟩
    have hSv : nv S = 4294967296 ^ k * t := by rw [hS, nv_at]
    have hSl : S.length = k + 2 := by rw [hS]; simp
    have hSn : lim S := by rw [hS]; exact lim_append.2 ⟨lim_rep _, by simp [lim_cons, lim_nil]; omega⟩
    have ga := at1_good t k htl (by omega)
    rw [← hS] at ga
    have gm := mul1_good S (Ψ .cn D) ⟨hSn, by omega⟩ ⟨lim_cn _, by omega⟩ (by omega) (by omega)
    rw [hSv, nv_cn] at gm
    have hPle := len_cn_eq hok
    have gs := sub1_good (Ψ .cn L) (Ψ .cn (4294967296 ^ k * t * D)) ⟨lim_cn _, by omega⟩ ⟨lim_cn _, by omega⟩ (by omega) (by rw [nv_cn, nv_cn]; exact hok)
    rw [nv_cn, nv_cn] at gs
    have hinv2 := div_inv hinv hok
    have gad := add1_good (Ψ .cn q) S ⟨lim_cn _, by omega⟩ ⟨hSn, by omega⟩ (by omega) (by omega)
    rw [nv_cn, hSv] at gad
    have hPpos : 0 < 4294967296 ^ k * t * D := Nat.mul_pos (Nat.mul_pos (pow_pos_B k) (Nat.pos_of_ne_zero htpos)) (Nat.pos_of_ne_zero hD0)
    have hlt : L - 4294967296 ^ k * t * D < L := by omega
    obtain ⟨q', hq'⟩ : ∃ q', q' = q + 4294967296 ^ k * t := ⟨_, rfl⟩
    obtain ⟨L', hL'⟩ : ∃ L', L' = L - 4294967296 ^ k * t * D := ⟨_, rfl⟩
    rw [← hq'] at gad hinv2
    rw [← hL'] at gs hinv2 hlt
    obtain ⟨P', hP'⟩ : ∃ P', P' = 4294967296 ^ k * t * D := ⟨_, rfl⟩
    rw [← hP'] at gm gs
    refine ⟨_, hC _ _ _ ga, ?_⟩
    cases fr
    ·refine nx ?_
     refine ⟨_, hC _ _ _ gad, ?_⟩
     refine nx ?_
     refine ⟨_, hC _ _ _ gm, ?_⟩
     refine nx ?_
     refine ⟨_, hC _ _ _ gs, ?_⟩
     refine nx ?_
     refine ⟨(false, q', L'), [1050], ⟨fun h => Bool.noConfusion h, hinv2⟩, hlt, rfl, rfl, rfl⟩
    ·have hq0 := hfr rfl
     subst hq0
     refine nx ?_
     refine ⟨_, hC _ _ _ gad, ?_⟩
     refine nx ?_
     refine ⟨_, hC _ _ _ gm, ?_⟩
     refine nx ?_
     refine ⟨_, hC _ _ _ gs, ?_⟩
     refine nx ?_
     refine ⟨(false, q', L'), [1050], ⟨fun h => Bool.noConfusion h, hinv2⟩, hlt, rfl, rfl, rfl⟩
  ·have hlt : L < D := by have := of_decide_eq_false h; have h2 := mt (@cmpI_nonneg L D).2 this; omega
   obtain ⟨e1, e2⟩ := hdiv q L hinv hlt
   rw [e1, ← e2]
   obtain ⟨Y2, hY2⟩ : ∃ n, n = L / 2 ^ s := ⟨_, rfl⟩
   refine nx ?_
   refine LoopG.intro (σ := Nat) [8, 9, 10, 17] [1050]
    (fun n => [.d (dN Ψ (Ψ .cn (L / 2 ^ n))), .d (.i .i64 (Ω .ci s)), if fr then .own 1050 1 else .d (dN Ψ (Ψ .cn q)), .d (.i .i64 (Ω .ci n))])
    (fun _ => [.row fr T.uint32 1 (Ψ .lims (Ψ .cn 0))])
    (fun n => n ≤ s)
    (fun n => s - n) 0 [1050] (Nat.zero_le _) ⟨rfl, ?_, rfl⟩ ?_
   ·simp only [Nat.pow_zero, Nat.div_one]
    cases fr <;> rfl
   intro n hn
   have hln : (Ψ .cn (L / 2 ^ n)).length ≤ (Ψ .cn L).length := len_cn_eq (Nat.div_le_self _ _)
   have gh := half1_good (Ψ .cn (L / 2 ^ n)) ⟨lim_cn _, by omega⟩
   rw [nv_cn, halves] at gh
   obtain ⟨u1, hu1⟩ : ∃ u, u = L / 2 ^ n := ⟨_, rfl⟩
   obtain ⟨u2, hu2⟩ : ∃ u, u = L / 2 ^ (n + 1) := ⟨_, rfl⟩
   rw [← hu1, ← hu2] at gh
   rw [← hu1]
   refine nx ?_
   refine BrG.split (fun h => ?_) (fun h => ?_)
   ·have hns : n < s := by have := h; simp only [wz] at this; omega
    refine nx ?_
    refine ⟨_, hC _ _ _ gh, ?_⟩
    refine nx ?_
    refine ⟨n + 1, [1050], hns, by omega, rfl, ?_, rfl⟩
    rw [← hu2]
    refine Eq.trans (b := [V.d (dN Ψ (Ψ .cn u2)), V.d (.i .i64 (Ω .ci s)), if fr then .own 1050 1 else .d (dN Ψ (Ψ .cn q)), V.d (.i .i64 (Ω .wrap .i64 (Ω .ci n + 1)))]) ?_ ?_
    ·cases fr <;> rfl
    ·rw [wrap_succ (by omega)]
   ·have hns : n = s := by have := h; simp only [wz] at this; omega
    subst hns
    cases fr
    ·refine nx ?_
     rw [hu1]
    ·have hq0 := hfr rfl
     subst hq0
     refine nx ?_
     rw [hu1]
theorem gcd1_good (a b : List Nat) (ha : N a) (hb : N b) (hal : a.length < 137438953472) (hbl : b.length < 137438953472) :
  Good P F.penumbraref02_Gcd [.d (dN Ψ a), .d (dN Ψ b)] [] (.d (dN Ψ (Ψ .cn ((nv a).gcd (nv b))))) [] := by
 refine G.penumbraref02_Gcd fun C C2 hC hC2 => ?_
 refine nx ?_
 refine LoopG.intro (σ := List Nat × List Nat) [0, 1] [] (fun s => [.d (dN Ψ s.1), .d (dN Ψ s.2)]) (fun _ => [])
  (fun s => N s.1 ∧ N s.2 ∧ s.1.length < 137438953472 ∧ s.2.length < 137438953472 ∧ (nv s.1).gcd (nv s.2) = (nv a).gcd (nv b)) (fun s => nv s.2) (a, b) [] ⟨ha, hb, hal, hbl, rfl⟩ ⟨rfl, rfl, rfl⟩ ?_
 rintro ⟨x, y⟩ ⟨hx, hy, hxl, hyl, he⟩
 simp only at hx hy hxl hyl he
 have gz := zero1_good y hy
 by_cases hy0 : nv y = 0
 ·rw [decide_eq_true hy0] at gz
  rw [hy0, Nat.gcd_zero_right] at he
  have gn := norm1_good x hx
  rw [he] at gn
  refine nx ?_
  refine ⟨_, hC _ _ _ gz, ?_⟩
  refine nx ?_
  refine ⟨_, hC _ _ _ gn, ?_⟩
  exact nx trivial
 ·rw [decide_eq_false hy0] at gz
  have hg := divmod1_good x y hx hy hxl hyl hy0
  have hlt := Nat.mod_lt (nv x) (Nat.pos_of_ne_zero hy0)
  have hml : (Ψ .cn (nv x % nv y)).length ≤ y.length := len_cn.2 (Nat.lt_trans hlt (nv_lt hy.lim))
  refine nx ?_
  refine ⟨_, hC _ _ _ gz, ?_⟩
  refine nx ?_
  refine ⟨_, hC _ _ _ hg, ?_⟩
  refine nx ?_
  refine ⟨(y, Ψ .cn (nv x % nv y)), [], ⟨hy, ⟨lim_cn _, by simp only; omega⟩, hyl, by simp only; omega, ?_⟩, ?_, rfl, rfl, rfl⟩
  ·simp only [nv_cn]
   rw [← he, Nat.gcd_comm (nv y), ← Nat.gcd_rec, Nat.gcd_comm]
  ·simp only [nv_cn]
   exact hlt
end Go.K.S
end
section
namespace Go.K
open Go
theorem rsum2 (a b : RL) : rsum [a, b] = rv a + rv b := by simp [rsum, Rat.zero_add]
theorem rprod2 (a b : RL) : rprod [a, b] = rv a * rv b := by simp [rprod, Rat.one_mul]
theorem mem2 {α : Type} {a b x : α} (h : x ∈ [a, b]) : x = a ∨ x = b := by simpa [wz] using h
def vv (v : VL) : V3 := ⟨rv v.x, rv v.y, rv v.z⟩
structure Vn (k : Nat) (v : VL) : Prop where
 x : Rn k v.x
 y : Rn k v.y
 z : Rn k v.z
structure Pn (k : Nat) (p : V3) : Prop where
 x : Qn k p.x
 y : Qn k p.y
 z : Qn k p.z
theorem Vn.mono {j k : Nat} {v : VL} (h : Vn j v) (hjk : j ≤ k) : Vn k v := ⟨h.x.mono hjk, h.y.mono hjk, h.z.mono hjk⟩
theorem Pn.mono {j k : Nat} {v : V3} (h : Pn j v) (hjk : j ≤ k) : Pn k v := ⟨h.x.mono hjk, h.y.mono hjk, h.z.mono hjk⟩
def v0 : V3 := ⟨0, 0, 0⟩
def vadd (p q : V3) : V3 := ⟨p.x + q.x, p.y + q.y, p.z + q.z⟩
def vsub (p q : V3) : V3 := ⟨p.x - q.x, p.y - q.y, p.z - q.z⟩
def vcross (p q : V3) : V3 := ⟨p.y * q.z - p.z * q.y, p.z * q.x - p.x * q.z, p.x * q.y - p.y * q.x⟩
end Go.K
namespace Go.K
open Go
theorem VL.ext_iff' {a b : VL} : a = b ↔ a.x = b.x ∧ a.y = b.y ∧ a.z = b.z := by
 cases a; cases b; simp
theorem RL.ext_iff'' {a b : RL} : a = b ↔ a.neg = b.neg ∧ a.num = b.num ∧ a.den = b.den := by
 cases a; cases b; simp
instance : DecidableEq RL := fun _ _ => decidable_of_iff _ RL.ext_iff''.symm
instance : DecidableEq VL := fun _ _ => decidable_of_iff _ VL.ext_iff'.symm
theorem V3.ext_iff' {a b : V3} : a = b ↔ a.x = b.x ∧ a.y = b.y ∧ a.z = b.z := by
 cases a; cases b; simp
instance : DecidableEq V3 := fun _ _ => decidable_of_iff _ V3.ext_iff'.symm
theorem ML.ext_iff' {a b : ML} : a = b ↔ a.s = b.s ∧ a.u = b.u ∧ a.v = b.v := by
 cases a; cases b; simp
instance : DecidableEq ML := fun _ _ => decidable_of_iff _ ML.ext_iff'.symm
theorem M3.ext_iff' {a b : M3} : a = b ↔ a.s = b.s ∧ a.u = b.u ∧ a.v = b.v := by
 cases a; cases b; simp
structure Mn (k : Nat) (v : ML) : Prop where
 s : Rn k v.s
 u : Rn k v.u
 v : Rn k v.v
end Go.K
end
