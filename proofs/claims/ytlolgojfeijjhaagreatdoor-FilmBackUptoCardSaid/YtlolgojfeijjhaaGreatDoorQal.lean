/-
  Parts of the proof, joined by a program of this work: KRat, KLong, KCmp, KDivMod, KGcd, KMade, KRats, KArith, KPlus.
-/
import Derived.Test.YtlolgojfeijjhaaGreatDoorQak
set_option linter.unusedSimpArgs false
set_option linter.unusedVariables false
set_option maxHeartbeats 20000000
set_option maxRecDepth 20000
section
namespace Go.K
open Go
def sg (b : Bool) (n : Nat) : Int := if b then -(n : Int) else n
def rv (r : RL) : Rat := mkRat (sg r.neg (nv r.num)) (nv r.den)
structure Rn (k : Nat) (r : RL) : Prop where
 ln : lim r.num
 ld : lim r.den
 kn : r.num.length ≤ k
 kd : r.den.length ≤ k
structure Qn (k : Nat) (q : Rat) : Prop where
 n : q.num.natAbs < 4294967296 ^ k
 d : q.den < 4294967296 ^ k
theorem sg_natAbs (b : Bool) (n : Nat) : (sg b n).natAbs = n := by cases b <;> simp [sg]
theorem sg_zero (b : Bool) : sg b 0 = 0 := by cases b <;> rfl
theorem sg_eq_zero {b : Bool} {n : Nat} : sg b n = 0 ↔ n = 0 := by cases b <;> simp [sg]
theorem sg_add_same (b : Bool) (m n : Nat) : sg b m + sg b n = sg b (m + n) := by
 cases b <;> simp [sg] <;> omega
theorem sg_mul_nat (b : Bool) (m n : Nat) : sg b m * (n : Int) = sg b (m * n) := by
 cases b <;> simp [sg, Int.neg_mul]
theorem sg_add_diff {a b : Bool} {m n : Nat} (h : a ≠ b) (hmn : n ≤ m) : sg a m + sg b n = sg a (m - n) := by
 cases a <;> cases b <;> simp [sg] at h ⊢ <;> omega
theorem sg_div (b : Bool) {m n : Nat} (h : n ∣ m) : sg b m / (n : Int) = sg b (m / n) := by
 cases b
 ·simp [sg]
 ·simp only [sg, if_true]
  rw [Int.neg_ediv_of_dvd (Int.natCast_dvd_natCast.2 h)]
  simp
theorem rv_mk (b : Bool) (x y : List Nat) : rv ⟨b, x, y⟩ = mkRat (sg b (nv x)) (nv y) := rfl
theorem cr_zero : Ψ .cr 0 = ⟨false, [], [1]⟩ := by
 have h1 : Ψ .cn 0 = [] := cn_zero
 have h2 : Ψ .cn 1 = [1] := by rw [cn_pos (by omega)]; simp [cn_zero]
 simp [p_cr, h1, h2]
theorem cn_one : Ψ .cn 1 = [1] := by rw [cn_pos (by omega)]; simp [cn_zero]
theorem rv_cr (q : Rat) : rv (Ψ .cr q) = q := by
 simp only [rv, p_cr, nv_cn]
 have : sg (decide (q.num < 0)) q.num.natAbs = q.num := by
  unfold sg
  by_cases h : q.num < 0
  ·simp [h]; omega
  ·simp [h]; omega
 rw [this, Rat.mkRat_self]
theorem Rn_cr {k : Nat} {q : Rat} : Rn k (Ψ .cr q) ↔ Qn k q :=
 ⟨fun h => ⟨len_cn.1 h.kn, len_cn.1 h.kd⟩, fun h => ⟨lim_cn _, lim_cn _, len_cn.2 h.n, len_cn.2 h.d⟩⟩
theorem cr_mk {b : Bool} {m n : Nat} (hm : m ≠ 0) (hn : n ≠ 0) : Ψ .cr (mkRat (sg b m) n) = ⟨b, Ψ .cn (m / m.gcd n), Ψ .cn (n / m.gcd n)⟩ := by
 have hg : n.gcd m = m.gcd n := Nat.gcd_comm _ _
 have h1 : (mkRat (sg b m) n).num = sg b (m / m.gcd n) := by
  rw [Rat.num_mkRat, if_neg hn, sg_natAbs, hg, sg_div _ (Nat.gcd_dvd_left m n)]
 have h2 : (mkRat (sg b m) n).den = n / m.gcd n := by
  rw [Rat.den_mkRat, if_neg hn, sg_natAbs, hg]
 have h3 : 0 < m / m.gcd n := Nat.div_pos (Nat.le_of_dvd (by omega) (Nat.gcd_dvd_left m n)) (Nat.gcd_pos_of_pos_left n (by omega))
 simp only [p_cr, h1, h2, sg_natAbs]
 congr 1
 cases b
 ·simp only [sg]
  refine decide_eq_false (fun h => ?_)
  simp only [Bool.false_eq_true, if_false] at h
  omega
 ·simp only [sg]
  refine decide_eq_true ?_
  simp only [if_true]
  omega
theorem mk_zero_num (b : Bool) (n : Nat) : mkRat (sg b 0) n = 0 := by rw [sg_zero]; exact Rat.zero_mkRat n
theorem mk_zero_den (x : Int) : mkRat x 0 = 0 := Rat.mkRat_zero x
theorem Qn_mk {x : Int} {n k : Nat} (hx : x.natAbs < 4294967296 ^ k) (hn : n < 4294967296 ^ k) (hk : 0 < k) : Qn k (mkRat x n) := by
 have hB : 1 < 4294967296 ^ k := Nat.one_lt_pow (by omega) (by omega)
 refine ⟨?_, ?_⟩
 ·rw [Rat.num_mkRat]
  split
  ·simp; omega
  ·exact Nat.lt_of_le_of_lt (Int.natAbs_ediv_le_natAbs _ _) hx
 ·rw [Rat.den_mkRat]
  split
  ·exact hB
  ·exact Nat.lt_of_le_of_lt (Nat.div_le_self _ _) hn
theorem pow_pos_B (k : Nat) : 0 < 4294967296 ^ k := Nat.pow_pos (by omega)
theorem B_mono {j k : Nat} (h : j ≤ k) : 4294967296 ^ j ≤ 4294967296 ^ k := Nat.pow_le_pow_right (by omega) h
theorem Qn.mono {j k : Nat} {q : Rat} (h : Qn j q) (hjk : j ≤ k) : Qn k q := ⟨Nat.lt_of_lt_of_le h.n (B_mono hjk), Nat.lt_of_lt_of_le h.d (B_mono hjk)⟩
theorem Rn.mono {j k : Nat} {r : RL} (h : Rn j r) (hjk : j ≤ k) : Rn k r := ⟨h.ln, h.ld, by have := h.kn; omega, by have := h.kd; omega⟩
theorem Qn_zero {k : Nat} (hk : 0 < k) : Qn k 0 := ⟨pow_pos_B k, Nat.one_lt_pow (by omega) (by omega)⟩
theorem Qn_one {k : Nat} (hk : 0 < k) : Qn k 1 := ⟨Nat.one_lt_pow (by omega) (by omega), Nat.one_lt_pow (by omega) (by omega)⟩
theorem Qn_rv {k : Nat} {r : RL} (h : Rn k r) (hk : 0 < k) : Qn k (rv r) := by
 refine Qn_mk ?_ ?_ hk
 ·rw [sg_natAbs]; exact Nat.lt_of_lt_of_le (nv_lt h.ln) (B_mono h.kn)
 ·exact Nat.lt_of_lt_of_le (nv_lt h.ld) (B_mono h.kd)
theorem lt_mul_pow {a b j k : Nat} (ha : a < 4294967296 ^ j) (hb : b < 4294967296 ^ k) : a * b < 4294967296 ^ (j + k) := by
 rw [Nat.pow_add]
 exact Nat.mul_lt_mul_of_lt_of_le ha (Nat.le_of_lt hb) (pow_pos_B k)
theorem Qn_mul {j k : Nat} {p q : Rat} (hp : Qn j p) (hq : Qn k q) (h : 0 < j + k) : Qn (j + k) (p * q) := by
 have e : p * q = mkRat (p.num * q.num) (p.den * q.den) := Rat.mul_def' p q
 rw [e]
 refine Qn_mk ?_ (lt_mul_pow hp.d hq.d) h
 rw [Int.natAbs_mul]
 exact lt_mul_pow hp.n hq.n
theorem Qn_add {j k : Nat} {p q : Rat} (hp : Qn j p) (hq : Qn k q) : Qn (j + k + 1) (p + q) := by
 have e : p + q = mkRat (p.num * q.den + q.num * p.den) (p.den * q.den) := Rat.add_def' p q
 rw [e]
 have h1 := lt_mul_pow hp.n hq.d
 have h2 := lt_mul_pow hq.n hp.d
 rw [Nat.add_comm k j] at h2
 have h3 : (p.num * q.den + q.num * p.den).natAbs ≤ p.num.natAbs * q.den + q.num.natAbs * p.den := by
  refine Nat.le_trans (Int.natAbs_add_le _ _) ?_
  rw [Int.natAbs_mul, Int.natAbs_mul]
  simp
 refine Qn_mk ?_ ?_ (by omega)
 ·rw [Nat.pow_succ]; omega
 ·exact Nat.lt_of_lt_of_le (lt_mul_pow hp.d hq.d) (B_mono (by omega))
end Go.K
namespace Go.K
open Go
theorem cI_neg {p q : Rat} : Ψ .cI p q < 0 ↔ p < q := by simp only [p_cI]; split <;> (try split) <;> simp_all
theorem cI_pos {p q : Rat} : 0 < Ψ .cI p q ↔ q < p := by
 simp only [p_cI]; split <;> (try split) <;> simp_all
 exact Rat.not_lt.2 (Rat.le_of_lt ‹_›)
theorem cI_nonpos {p q : Rat} : Ψ .cI p q ≤ 0 ↔ p ≤ q := by
 have := @cI_pos p q
 rw [← Rat.not_lt, ← this]; omega
theorem cI_nonneg {p q : Rat} : 0 ≤ Ψ .cI p q ↔ q ≤ p := by
 have := @cI_neg p q
 rw [← Rat.not_lt, ← this]; omega
theorem cI_zero {p q : Rat} : Ψ .cI p q = 0 ↔ p = q := by
 have h1 := @cI_nonpos p q
 have h2 := @cI_nonneg p q
 constructor
 ·intro h
  exact Rat.le_antisymm (h1.1 (by omega)) (h2.1 (by omega))
 ·rintro rfl
  have h3 := h1.2 Rat.le_refl
  have h4 := h2.2 Rat.le_refl
  omega
theorem sI_zero {q : Rat} : Ψ .sI q = 0 ↔ q = 0 := cI_zero
theorem mk_lt {x y : Int} {m n : Nat} (hm : m ≠ 0) (hn : n ≠ 0) : mkRat x m < mkRat y n ↔ x * n < y * m := by
 have h1 : (0 : Rat) < (m : Rat) := by exact_mod_cast Nat.pos_of_ne_zero hm
 have h2 : (0 : Rat) < (n : Rat) := by exact_mod_cast Nat.pos_of_ne_zero hn
 rw [Rat.mkRat_eq_div, Rat.mkRat_eq_div, Rat.div_lt_iff h1]
 have e : (y : Rat) / (n : Rat) * (m : Rat) = (y : Rat) * (m : Rat) / (n : Rat) := by grind
 rw [e, Rat.lt_div_iff h2]
 exact_mod_cast Iff.rfl
theorem mk_lt_zero {x : Int} {m : Nat} (hm : m ≠ 0) : mkRat x m < 0 ↔ x < 0 := by
 have := mk_lt (x := x) (y := 0) hm (n := 1) (by omega)
 rw [Rat.zero_mkRat] at this
 rw [this]; simp
theorem zero_lt_mk {x : Int} {m : Nat} (hm : m ≠ 0) : 0 < mkRat x m ↔ 0 < x := by
 have := mk_lt (x := 0) (y := x) (m := 1) (by omega) hm
 rw [Rat.zero_mkRat] at this
 rw [this]; simp
theorem sI_mk {b : Bool} {m n : Nat} (hm : m ≠ 0) (hn : n ≠ 0) : Ψ .sI (mkRat (sg b m) n) = if b then -1 else 1 := by
 simp only [p_sI]
 simp only [mk_lt_zero hn, zero_lt_mk hn]
 cases b <;> simp [sg] <;> omega
theorem cI_mk {b : Bool} {m n m' n' : Nat} (hn : n ≠ 0) (hn' : n' ≠ 0) : Ψ .cI (mkRat (sg b m) n) (mkRat (sg b m') n') = (if b then -1 else 1) * Ψ .cmpI (m * n') (m' * n) := by
 simp only [p_cI, p_cmpI]
 simp only [mk_lt hn hn', mk_lt hn' hn, sg_mul_nat]
 generalize m * n' = x
 generalize m' * n = y
 cases b <;> simp only [sg, if_true, if_false, Bool.false_eq_true]
 ·have e1 : ((x : Int) < y) = (x < y) := by simp
  have e2 : ((y : Int) < x) = (y < x) := by simp
  simp only [e1, e2, Int.one_mul]
 ·have e1 : (-(x : Int) < -y) = (y < x) := by simp
  have e2 : (-(y : Int) < -x) = (x < y) := by simp
  simp only [e1, e2]
  by_cases h1 : x < y <;> by_cases h2 : y < x <;> simp [h1, h2] <;> omega
end Go.K
namespace Go.K
open Go
theorem cn_top {n : Nat} (hn : n ≠ 0) : ∃ x m, (Ψ .cn n).length = m + 1 ∧ (Ψ .cn n)[m]? = some x ∧ x ≠ 0 ∧ x < 4294967296 ∧ n < 4294967296 ^ m * (x + 1) ∧ 4294967296 ^ m * x ≤ n ∧ n = nv ((Ψ .cn n).take m) + 4294967296 ^ m * x := by
 have hl : (Ψ .cn n).length ≠ 0 := fun h => hn (cn_eq_nil.1 (List.eq_nil_of_length_eq_zero h))
 obtain ⟨m, hm⟩ : ∃ m, (Ψ .cn n).length = m + 1 := ⟨(Ψ .cn n).length - 1, by omega⟩
 obtain ⟨x, hx⟩ : ∃ x, (Ψ .cn n)[m]? = some x := ⟨_, List.getElem?_eq_getElem (by omega)⟩
 have h0 := cano_cn n x (by rw [List.getLast?_eq_getElem?, hm]; exact hx)
 have h1 := nv_take_succ hx
 rw [← hm, List.take_length, nv_cn] at h1
 have h2 := nv_lt (lim_take (lim_cn n) m)
 rw [List.length_take, Nat.min_eq_left (by omega)] at h2
 refine ⟨x, m, hm, hx, h0, lim_get (lim_cn n) hx, ?_, by omega, h1⟩
 rw [Nat.mul_add]; omega
theorem len_cn_eq {m n : Nat} (h : m ≤ n) : (Ψ .cn m).length ≤ (Ψ .cn n).length := by
 rcases Nat.lt_or_ge (Ψ .cn n).length (Ψ .cn m).length with c | c
 ·have := cn_len_lt c; omega
 ·exact c
end Go.K
end
section
namespace Go.K
theorem long_round {w q : List Nat} {j m V Q R' X : Nat} (hw : lim w) (hj : j + m ≤ w.length) (hjq : j < q.length) (hq : lim q) (hZ : nv ((w.drop j).drop m) = 0) (hR' : R' < 4294967296 ^ m) (hQ : Q < 4294967296)
  (h : nv ((w.drop j).take m) = Q * V + R') (hinv : nv w + V * (4294967296 ^ (j + 1) * nv (q.drop (j + 1))) = X) (hlt : R' < V) :
  lim (w.take j ++ ln m R' ++ w.drop (j + m)) ∧ (w.take j ++ ln m R' ++ w.drop (j + m)).length = w.length ∧ lim (q.set j Q) ∧ (q.set j Q).length = q.length ∧
   nv (w.take j ++ ln m R' ++ w.drop (j + m)) + V * (4294967296 ^ j * nv ((q.set j Q).drop j)) = X ∧ nv ((w.take j ++ ln m R' ++ w.drop (j + m)).drop j) < V := by
 have hlA : (w.take j).length = j := by rw [List.length_take]; omega
 have hZ' : nv (w.drop (j + m)) = 0 := by rw [List.drop_drop] at hZ; exact hZ
 have hval : nv (ln m R' ++ w.drop (j + m)) = R' := by rw [nv_append, nv_ln hR', hZ', Nat.mul_zero, Nat.add_zero]
 have hwv : nv w = nv (w.take j) + 4294967296 ^ j * (Q * V + R') := by
  rw [nv_split w j (by omega), nv_split (w.drop j) m (by simp; omega), hZ, Nat.mul_zero, Nat.add_zero, h]
 refine ⟨lim_append.2 ⟨lim_append.2 ⟨lim_take hw _, lim_ln _ _⟩, lim_drop hw _⟩, ?_, lim_set hq _ hQ, by simp, ?_, ?_⟩
 ·simp [len_ln]; omega
 ·rw [List.append_assoc, nv_append, hval, hlA, nv_set_drop hjq, ← hinv, hwv, Nat.pow_succ]
  generalize nv (q.drop (j + 1)) = d
  generalize 4294967296 ^ j = M
  generalize nv (w.take j) = a
  rw [Nat.mul_add M (Q * V), Nat.mul_add M Q, Nat.mul_add V, Nat.mul_assoc M 4294967296 d]
  have : V * (M * Q) = M * (Q * V) := by ac_rfl
  omega
 ·have : (w.take j ++ ln m R' ++ w.drop (j + m)).drop j = ln m R' ++ w.drop (j + m) := by
   rw [List.append_assoc, List.drop_append_of_le_length (by omega), List.drop_of_length_le (by omega), List.nil_append]
  rw [this, hval]
  exact hlt
theorem guess_right {R V G : Nat} (h2 : R / V ≤ G) (h3 : ¬ R < G * V) (hV : 0 < V) : R = G * V + (R - G * V) ∧ R - G * V < V := by
 have h4 := (Nat.div_lt_iff_lt_mul hV).1 (Nat.lt_succ_of_le h2)
 rw [Nat.succ_mul] at h4
 omega
theorem guess_over {R V G M : Nat} (h1 : G * V < R + V) (h3 : R < G * V) (hV : V < M) : 0 < G ∧ (R + M - G * V + V) % M = R + V - G * V ∧ R = (G - 1) * V + (R + V - G * V) ∧ R + V - G * V < V := by
 have hG : 0 < G := by
  rcases Nat.eq_zero_or_pos G with c | c
  ·subst c; omega
  ·exact c
 obtain ⟨g, rfl⟩ : ∃ g, G = g + 1 := ⟨G - 1, by omega⟩
 rw [Nat.add_mul, Nat.one_mul] at *
 refine ⟨hG, ?_, ?_, by omega⟩
 ·rw [show R + M - (g * V + V) + V = M + (R + V - (g * V + V)) by omega, Nat.add_mod_left, Nat.mod_eq_of_lt (by omega)]
 ·simp only [Nat.add_sub_cancel]; omega
theorem shifted_top {b : List Nat} {n top s : Nat} (hb : lim b) (hn : b.length = n + 1) (ht : b[n]? = some top) (ht0 : top ≠ 0) (hs : s = 32 - bl top) :
  4294967296 ^ n * 2147483648 ≤ nv b * 2 ^ s ∧ nv b * 2 ^ s < 4294967296 ^ (n + 1) := by
 have htl := lim_get hb ht
 have hbl : bl top ≤ 32 := bl_le.2 htl
 have h1 := nv_take_succ ht
 rw [← hn, List.take_length] at h1
 have h2 := nv_lt (lim_take hb n)
 rw [List.length_take, Nat.min_eq_left (by omega)] at h2
 have hlo : 2 ^ (bl top - 1) ≤ top := by
  rcases Nat.lt_or_ge top (2 ^ (bl top - 1)) with q | q
  ·have h3 := bl_le.2 q
   have h4 : bl top ≠ 0 := fun h => ht0 (bl_eq_zero.1 h)
   omega
  ·exact q
 have h4 : bl top ≠ 0 := fun h => ht0 (bl_eq_zero.1 h)
 have hp1 : 2 ^ (bl top - 1) * 2 ^ s = 2147483648 := by rw [← Nat.pow_add, show bl top - 1 + s = 31 by omega]
 have hp2 : 2 ^ bl top * 2 ^ s = 4294967296 := by rw [← Nat.pow_add, show bl top + s = 32 by omega]
 have hhi := bl_lt top
 have a1 : 2147483648 ≤ top * 2 ^ s := by rw [← hp1]; exact Nat.mul_le_mul_right _ hlo
 have a2 : (top + 1) * 2 ^ s ≤ 4294967296 := by rw [← hp2]; exact Nat.mul_le_mul_right _ hhi
 rw [Nat.pow_succ]
 generalize 4294967296 ^ n = M at *
 refine ⟨?_, ?_⟩
 ·have := Nat.mul_le_mul_left M a1
  rw [← Nat.mul_assoc] at this
  rw [h1, Nat.add_mul]
  omega
 ·have h5 : nv b + 1 ≤ M * (top + 1) := by rw [h1, Nat.mul_add]; omega
  have h6 := Nat.mul_le_mul_right (2 ^ s) h5
  have h7 := Nat.mul_le_mul_left M a2
  rw [← Nat.mul_assoc] at h7
  have h8 : 0 < 2 ^ s := Nat.pow_pos (by omega)
  rw [Nat.add_mul] at h6
  omega
end Go.K
namespace Go.K.S
open Go Go.K
def mdLong : FuncId → Bool := fun g => g == F.nat_Shl || g == F.nat_less || g == F.nat_back
theorem long_good (a b : List Nat) (ha : N a) (hb : N b) (hcb : cano b) (hb2 : 2 ≤ b.length) (hab : b.length ≤ a.length) (hal : a.length < 549755813888) :
  Good P F.nat_long [.d (dN Ψ a), .d (dN Ψ b)] [] (.tup [.d (dN Ψ (Ψ .cn (nv a / nv b))), .d (dN Ψ (Ψ .cn (nv a % nv b)))]) [] := by
 refine G1.nat_long mdLong fun C C2 hC hC2 => ?_
 obtain ⟨top, htop⟩ : ∃ t, b[b.length - 1]? = some t := ⟨_, List.getElem?_eq_getElem (by omega)⟩
 have htl := lim_get hb.lim htop
 have ht0 : top ≠ 0 := hcb top (by rw [List.getLast?_eq_getElem?]; exact htop)
 have hbl : bl top ≤ 32 := bl_le.2 htl
 have hbl0 : 0 < bl top := by
               rcases Nat.eq_zero_or_pos (bl top) with q | q
               ·exact absurd (bl_eq_zero.1 q) ht0
               ·exact q
 refine nx ?_
 refine idx_lims (b.length - 1) top (wrap_pred (by omega) (by have := hb.len; omega)) htop rfl ?_
 refine nx ?_
 refine ⟨_, hC _ _ _ (lead32_good top htl), ?_⟩
 obtain ⟨s, hs⟩ : ∃ s, s = 32 - bl top := ⟨_, rfl⟩
 rw [← hs]
 have hs32 : s < 32 := by omega
 refine nx ?_
 have hv := shl_own b s hb (by omega) (by omega)
 have hu := shl_own a s ha (by omega) (by omega)
 refine ⟨_, _, hC2 _ _ _ _ _ hv, ?_⟩
 refine nx ?_
 refine ⟨_, _, hC2 _ _ _ _ _ hu, ?_⟩
 refine nx ?_
 obtain ⟨n, hn⟩ : ∃ n, b.length = n + 2 := ⟨b.length - 2, by omega⟩
 have hst := shifted_top hb.lim (n := n + 1) (by omega) (by rw [show n + 1 = b.length - 1 by omega]; exact htop) ht0 hs
 obtain ⟨vl, hvl⟩ : ∃ vl, vl = Ψ .cn (nv b * 2 ^ s) := ⟨_, rfl⟩
 obtain ⟨ul, hul⟩ : ∃ ul, ul = Ψ .cn (nv a * 2 ^ s) := ⟨_, rfl⟩
 have hvn : nv vl = nv b * 2 ^ s := by rw [hvl, nv_cn]
 have hun : nv ul = nv a * 2 ^ s := by rw [hul, nv_cn]
 have hvlim : lim vl := by rw [hvl]; exact lim_cn _
 have hulim : lim ul := by rw [hul]; exact lim_cn _
 have hvlen : vl.length = n + 2 := by
  have h1 : vl.length ≤ n + 2 := by rw [hvl]; exact len_cn.2 hst.2
  have h2 : ¬ vl.length ≤ n + 1 := fun q => by
   rw [hvl] at q
   have := len_cn.1 q
   have h3 : 0 < 4294967296 ^ (n + 1) := Nat.pow_pos (by omega)
   have h4 := hst.1
   omega
  omega
 have hulen : ul.length ≤ a.length + 1 := by
  rw [hul]
  refine len_cn.2 ?_
  have h1 := nv_lt ha.lim
  have h2 : 2 ^ s ≤ 4294967296 := Nat.pow_le_pow_right (n := 2) (by omega) (show s ≤ 32 by omega)
  rw [Nat.pow_succ]
  exact Nat.lt_of_lt_of_le (Nat.mul_lt_mul_of_pos_right h1 (Nat.pow_pos (by omega))) (Nat.mul_le_mul_left _ h2)
 rw [← hvl, ← hul]
 refine LoopG.intro (σ := List Nat) [0, 6, 7, 9, 11] [1050, 1051]
  (fun w => [.d (dN Ψ a), .d (.i .i64 (Ω .ci s)), .own 1051 1, .own 1050 1, .d (.i .i64 (Ω .ci vl.length))])
  (fun w => [.row true T.uint32 1 (Ψ .lims w), .row true T.uint32 1 (Ψ .lims vl)])
  (fun w => lim w ∧ nv w = nv a * 2 ^ s ∧ w.length ≤ a.length + 1)
  (fun w => a.length + 1 - w.length) ul [1010416, 1009616] ⟨hulim, hun, hulen⟩ ⟨rfl, rfl, rfl⟩ ?_
 rintro w ⟨hw, hwn, hwl⟩
 refine nx ?_
 refine BrG.split (fun h => ?_) (fun h => ?_)
 ·have hlt : w.length ≤ a.length := by have := h; simp only [wz] at this; omega
  refine nx ?_
  refine ⟨cells_one _ _, (by simp only [wz]; omega), w ++ [0], [1602, 1051], ⟨lim_append.2 ⟨hw, by simp [lim_cons, lim_nil]⟩, by rw [nv_snoc]; omega, by simp; omega⟩, by simp; omega, rfl, rfl, ?_⟩
  refine Eq.trans (b := [.row true T.uint32 1 _, .row true T.uint32 1 (Ψ .lims vl)]) rfl ?_
  rw [← scat_snoc]; rfl
 ·have hlt : w.length = a.length + 1 := by have := h; simp only [wz] at this; omega
  obtain ⟨K0, hK0⟩ : ∃ K0, K0 = w.length - vl.length := ⟨_, rfl⟩
  have hw1 : Ω .wrap .i64 (Ω .ci w.length - Ω .ci vl.length) = Ω .ci K0 := by rw [wrap_sub (by omega) (by omega), hK0]
  refine nx ?_
  rw [hw1]
  refine ⟨ci_nonneg _, Int.le_refl _, by simp only [wz]; omega, by simp only [wz]; omega, ?_⟩
  refine LoopG.intro (σ := Nat × List Nat × List Nat) [6, 7, 9, 11, 12, 13] [1050, 1051, 1052]
   (fun x => [.d (.i .i64 (Ω .ci s)), .own 1051 1, .own 1050 1, .d (.i .i64 (Ω .ci vl.length)), .own 1052 1, .d (.i .i64 (Ω .wrap .i64 (Ω .ci x.1 - 1)))])
   (fun x => [.row true T.uint32 1 (Ψ .lims x.2.1), .row true T.uint32 1 (Ψ .lims vl), .row true T.uint32 1 (Ψ .lims x.2.2)])
   (fun x => x.1 ≤ K0 ∧ lim x.2.1 ∧ x.2.1.length = a.length + 1 ∧ lim x.2.2 ∧ x.2.2.length = K0 ∧ nv x.2.1 + nv vl * (4294967296 ^ x.1 * nv (x.2.2.drop x.1)) = nv a * 2 ^ s ∧ nv (x.2.1.drop x.1) < nv vl)
   (fun x => x.1) (K0, w, List.replicate K0 0) [1050, 1051, 1704] ⟨Nat.le_refl _, hw, hlt, lim_rep _, by simp, by simp [hwn], ?_⟩ ⟨rfl, ?_, ?_⟩ ?_
  ·simp only
   have h1 := nv_split w K0 (by omega)
   rw [hwn] at h1
   have h2 := Nat.mul_lt_mul_of_pos_right (nv_lt ha.lim) (Nat.pow_pos (n := s) (show 0 < 2 by omega))
   rw [show a.length = K0 + (n + 1) by omega, Nat.pow_add, Nat.mul_assoc] at h2
   have h3 : 2 ^ s ≤ 2147483648 := Nat.pow_le_pow_right (n := 2) (by omega) (show s ≤ 31 by omega)
   have h4 := Nat.mul_le_mul_left (4294967296 ^ (n + 1)) h3
   have h5 := hst.1
   rw [hvn]
   rcases Nat.lt_or_ge (nv (w.drop K0)) (nv b * 2 ^ s) with c | c
   ·exact c
   ·have h6 := Nat.mul_le_mul_left (4294967296 ^ K0) (show 4294967296 ^ (n + 1) * 2 ^ s ≤ nv (w.drop K0) by omega)
    omega
  ·refine Eq.trans (b := [.d (.i .i64 (Ω .ci s)), .own 1051 1, .own 1050 1, .d (.i .i64 (Ω .ci vl.length)), .own 1052 1, .d (.i .i64 _)]) rfl ?_
   rfl
  ·refine Eq.trans (b := [.row true T.uint32 1 (Ψ .lims w), .row true T.uint32 1 (Ψ .lims vl), .row true T.uint32 1 _]) rfl ?_
   rw [← srep_lims]; rfl
  rintro ⟨k, w, q⟩ ⟨hk, hwlim, hwlen, hqlim, hqlen, hinv, hrem⟩
  simp only at hk hwlim hwlen hqlim hqlen hinv hrem
  refine nx ?_
  refine BrG.split (fun h => ?_) (fun h => ?_)
  ·rw [wrap64 (by simp only [wz]; omega) (by simp only [wz]; omega)] at h
   have hk0 : 0 < k := by have := h; simp only [wz] at this; omega
   obtain ⟨j, rfl⟩ : ∃ j, k = j + 1 := ⟨k - 1, by omega⟩
   have e1 : Ω .wrap .i64 (Ω .ci (j + 1) - 1) = Ω .ci j := wrap_pred (by omega) (by omega)
   rw [e1]
   have hWl : ((w.drop j).take (n + 3)).length = n + 3 := by simp; omega
   obtain ⟨x2, hx2⟩ : ∃ x, w[j + (n + 2)]? = some x := ⟨_, List.getElem?_eq_getElem (by omega)⟩
   obtain ⟨x1, hx1⟩ : ∃ x, w[j + (n + 1)]? = some x := ⟨_, List.getElem?_eq_getElem (by omega)⟩
   obtain ⟨x0, hx0⟩ : ∃ x, w[j + n]? = some x := ⟨_, List.getElem?_eq_getElem (by omega)⟩
   obtain ⟨v1, hv1⟩ : ∃ x, vl[n + 1]? = some x := ⟨_, List.getElem?_eq_getElem (by omega)⟩
   obtain ⟨v0, hv0⟩ : ∃ x, vl[n]? = some x := ⟨_, List.getElem?_eq_getElem (by omega)⟩
   have l2 := lim_get hwlim hx2
   have l1 := lim_get hwlim hx1
   have l0 := lim_get hwlim hx0
   have lv1 := lim_get hvlim hv1
   have lv0 := lim_get hvlim hv0
   have i1 : Ω .wrap .i64 (Ω .ci j + Ω .ci vl.length) = Ω .ci (j + (n + 2)) := by rw [wrap_add (by omega), hvlen]
   have i2 : Ω .wrap .i64 (Ω .ci (j + (n + 2)) - 1) = Ω .ci (j + (n + 1)) := wrap_pred (by omega) (by omega)
   have i3 : Ω .wrap .i64 (Ω .ci vl.length - 1) = Ω .ci (n + 1) := by rw [wrap_pred (by omega) (by omega), hvlen]; rfl
   have i4 : Ω .wrap .i64 (Ω .ci vl.length - 2) = Ω .ci n := by
    rw [wrap64 (by simp only [wz]; omega) (by simp only [wz]; omega)]; simp only [wz]; omega
   have i5 : Ω .wrap .i64 (Ω .ci (j + (n + 2)) - 2) = Ω .ci (j + n) := by
    rw [wrap64 (by simp only [wz]; omega) (by simp only [wz]; omega)]; simp only [wz]; omega
   refine nx ?_
   refine own_lims (j + (n + 2)) x2 i1 hx2 ?_ ?_ ?_
   ·exact Nat.le_refl _
   ·exact rfl
   refine nx ?_
   refine own_lims (j + (n + 1)) x1 (by rw [i1]; exact i2) hx1 ?_ ?_ ?_
   ·exact Nat.le_refl _
   ·exact rfl
   refine nx ?_
   have hT : Ω .ior .u64 (Ω .ishl .u64 (Ω .wrap .u64 (Ω .ci x2)) 32) (Ω .wrap .u64 (Ω .ci x1)) = Ω .ci (x2 * 4294967296 + x1) := by
    rw [wrapu64_ci, wrapu64_ci, Nat.mod_eq_of_lt (by omega), Nat.mod_eq_of_lt (by omega), ishl32, wrapu64_ci, Nat.mod_eq_of_lt (by omega), ior64_ci (by omega) (by omega), or_shl _ l1]
   have hv1w : Ω .wrap .u64 (Ω .ci v1) = Ω .ci v1 := by rw [wrapu64_ci, Nat.mod_eq_of_lt (by omega)]
   rw [hT]
   obtain ⟨T', hT'⟩ : ∃ t, t = x2 * 4294967296 + x1 := ⟨_, rfl⟩
   have hTl : T' < 18446744073709551616 := by omega
   rw [← hT']
   refine own_lims (n + 1) v1 i3 hv1 ?_ ?_ ?_
   ·exact Nat.le_refl _
   ·exact rfl
   refine nx ?_
   have hv1b : 2147483648 ≤ v1 := by
    have h1 := nv_take_succ hv1
    rw [show n + 1 + 1 = vl.length by omega, List.take_length, hvn] at h1
    have h2 := nv_lt (lim_take hvlim (n + 1))
    rw [List.length_take, Nat.min_eq_left (by omega)] at h2
    have h3 := hst.1
    rcases Nat.lt_or_ge v1 2147483648 with c | c
    ·have h4 := Nat.mul_le_mul_left (4294967296 ^ (n + 1)) (show v1 + 1 ≤ 2147483648 by omega)
     rw [Nat.mul_add] at h4
     omega
    ·exact c
   rw [hv1w]
   refine ⟨by simp only [wz]; omega, ?_⟩
   refine own_lims (n + 1) v1 i3 hv1 ?_ ?_ ?_
   ·exact Nat.le_refl _
   ·exact rfl
   refine nx ?_
   rw [hv1w]
   refine ⟨by simp only [wz]; omega, ?_⟩
   obtain ⟨R, hR⟩ : ∃ R, R = nv (w.drop j) := ⟨_, rfl⟩
   have hRs : R < 4294967296 * nv vl := by
    obtain ⟨y, hy⟩ : ∃ y, w[j]? = some y := ⟨_, List.getElem?_eq_getElem (by omega)⟩
    have hyl := lim_get hwlim hy
    rw [hR, nv_drop hy]
    omega
   have hVlt : nv vl < 4294967296 ^ (n + 2) := by have := nv_lt hvlim; rwa [hvlen] at this
   have hsplit := nv_split (w.drop j) (n + 3) (by simp; omega)
   have hZ0 : nv ((w.drop j).drop (n + 3)) = 0 := by
    rcases Nat.eq_zero_or_pos (nv ((w.drop j).drop (n + 3))) with c | c
    ·exact c
    ·exfalso
     have h1 := Nat.mul_le_mul_left (4294967296 ^ (n + 3)) c
     have h2 : 4294967296 ^ (n + 3) = 4294967296 ^ (n + 2) * 4294967296 := Nat.pow_succ _ _
     omega
   rw [hZ0, Nat.mul_zero, Nat.add_zero] at hsplit
   have hRW : R = nv ((w.drop j).take n) + 4294967296 ^ n * x0 + 4294967296 ^ n * 4294967296 * x1 + 4294967296 ^ n * 4294967296 * 4294967296 * x2 := by
    have g0 : (w.drop j)[n]? = some x0 := by rw [List.getElem?_drop]; exact hx0
    have g1 : (w.drop j)[n + 1]? = some x1 := by rw [List.getElem?_drop]; exact hx1
    have g2 : (w.drop j)[n + 2]? = some x2 := by rw [List.getElem?_drop]; exact hx2
    rw [hR, hsplit, nv_take_succ g2, nv_take_succ g1, nv_take_succ g0]
    simp only [Nat.pow_succ]
   have hVW : nv vl = nv (vl.take n) + 4294967296 ^ n * v0 + 4294967296 ^ n * 4294967296 * v1 := by
    have := nv_take_succ hv1
    rw [show n + 1 + 1 = vl.length by omega, List.take_length, nv_take_succ hv0, Nat.pow_succ] at this
    exact this
   have hlo : nv ((w.drop j).take n) < 4294967296 ^ n := by
    have := nv_lt (lim_take (lim_drop hwlim j) n)
    rwa [List.length_take, Nat.min_eq_left (by simp; omega)] at this
   have hlo' : nv (vl.take n) < 4294967296 ^ n := by
    have := nv_lt (lim_take hvlim n)
    rwa [List.length_take, Nat.min_eq_left (by omega)] at this
   have kn : Kn R T' x0 (nv ((w.drop j).take n)) (nv vl) v1 v0 (nv (vl.take n)) (4294967296 ^ n) := by
    refine ⟨?_, hlo, ?_, hlo', l0, lv0, hv1b, lv1, hRs⟩
    ·rw [hRW, hT']
     generalize 4294967296 ^ n = M
     rw [Nat.add_mul, Nat.add_mul, Nat.add_mul]
     have q1 : x2 * 4294967296 * 4294967296 * M = M * 4294967296 * 4294967296 * x2 := by
      rw [Nat.mul_comm _ M, ← Nat.mul_assoc, ← Nat.mul_assoc, Nat.mul_right_comm M x2, Nat.mul_right_comm _ x2]
     have q2 : x1 * 4294967296 * M = M * 4294967296 * x1 := by rw [Nat.mul_comm _ M, ← Nat.mul_assoc, Nat.mul_right_comm]
     rw [q1, q2, Nat.mul_comm x0]
     omega
    ·rw [hVW]
     generalize 4294967296 ^ n = M
     rw [Nat.add_mul]
     have q2 : v1 * 4294967296 * M = M * 4294967296 * v1 := by rw [Nat.mul_comm _ M, ← Nat.mul_assoc, Nat.mul_right_comm]
     rw [q2, Nat.mul_comm v0]
     omega
   have hq : R / nv vl ≤ T' / v1 := kn.first
   rw [tdiv_ci, tmod_ci, wrapu64_ci]
   refine LoopG.intro (σ := Nat × Nat) [6, 7, 9, 11, 12, 13, 15, 16] [1050, 1051, 1052]
    (fun x => [.d (.i .i64 (Ω .ci s)), .own 1051 1, .own 1050 1, .d (.i .i64 (Ω .ci vl.length)), .own 1052 1, .d (.i .i64 (Ω .ci j)), .d (.i .u64 (Ω .ci x.1)), .d (.i .u64 (Ω .ci x.2))])
    (fun x => [.row true T.uint32 1 (Ψ .lims w), .row true T.uint32 1 (Ψ .lims vl), .row true T.uint32 1 (Ψ .lims q)])
    (fun x => x.1 * v1 + x.2 = T' ∧ R / nv vl ≤ x.1 ∧ x.2 < 4294967296)
    (fun x => x.1) (T' / v1, T' % v1) [1050, 1051, 1052] ⟨by have := Nat.div_add_mod T' v1; rw [Nat.mul_comm] at this; exact this, hq, Nat.lt_trans (Nat.mod_lt _ (by omega)) lv1⟩ ⟨rfl, ?_, rfl⟩ ?_
   ·refine Eq.trans (b := [.d (.i .i64 (Ω .ci s)), .own 1051 1, .own 1050 1, .d (.i .i64 (Ω .ci vl.length)), .own 1052 1, .d (.i .i64 (Ω .ci j)), .d (.i .u64 _), .d (.i .u64 _)]) rfl ?_
    rw [wrapu64_ci, Nat.mod_eq_of_lt (Nat.lt_of_le_of_lt (Nat.div_le_self _ _) hTl)]
   rintro ⟨g, r⟩ ⟨hg, hge, hr⟩
   simp only at hg hge hr
   have hg64 : g < 18446744073709551616 := by
    have := Nat.le_mul_of_pos_right g (show 0 < v1 by omega)
    omega
   refine nx ?_
   refine BrG.split (fun h => ?_) (fun h => ?_)
   ·have hbig : 4294967296 ≤ g := by have := h; simp only [wz] at this; omega
    refine nx ?_
    refine own_lims (n + 1) v1 i3 hv1 ?_ ?_ ?_
    ·exact Nat.le_refl _
    ·exact rfl
    have hRq : R / nv vl < 4294967296 := (Nat.div_lt_iff_lt_mul (by omega)).2 hRs
    have hgq : R / nv vl ≤ g - 1 := by omega
    refine nx ?_
    have hgm : Ω .wrap .u64 (Ω .ci g - 1) = Ω .ci (g - 1) := by
     rw [show (1 : Int) = Ω .ci 1 from rfl, ci_sub (by omega), wrapu64_ci, Nat.mod_eq_of_lt (by omega)]
    have hgs : (g - 1) * v1 + (r + v1) = T' := by
     obtain ⟨g', rfl⟩ : ∃ g', g = g' + 1 := ⟨g - 1, by omega⟩
     rw [Nat.add_mul] at hg
     simp only [Nat.add_sub_cancel]
     omega
    rw [hgm, hv1w, ci_add, wrapu64_ci, Nat.mod_eq_of_lt (by omega)]
    refine BrG.split (fun h => ?_) (fun h => ?_)
    ·have hr2 : 4294967296 ≤ r + v1 := by have := h; simp only [wz] at this; omega
     obtain ⟨hGl, hGV⟩ := kn.broke hgs hr2
     obtain ⟨G, hG⟩ : ∃ G, G = g - 1 := ⟨_, rfl⟩
     rw [← hG] at hGl hGV hgq ⊢
     refine nx ?_
     rw [i1, wrap_succ (by omega)]
     have hwsp : w = w.take j ++ (w.drop j).take (n + 3) ++ w.drop (j + (n + 3)) := by
      rw [List.append_assoc, ← List.drop_drop, List.take_append_drop, List.take_append_drop]
     have hless := less_own (w.take j) ((w.drop j).take (n + 3)) (w.drop (j + (n + 3))) vl G (lim_take (lim_drop hwlim _) _) hvlim (by rw [← hwsp]; omega) (by omega) hGl
     rw [← hwsp, hWl, show (w.take j).length = j by simp; omega, ← hsplit, ← hR] at hless
     have hV0 : 0 < nv vl := by omega
     have hVm : nv vl < 4294967296 ^ (n + 3) := Nat.lt_of_lt_of_le hVlt (B_mono (by omega))
     refine ⟨ci_nonneg _, by simp only [wz]; omega, by simp only [wz]; omega, Int.le_refl _, (by first | exact rfl | exact fun _ => rfl), ?_⟩
     have hjm : j + (n + 2) + 1 - j = n + 3 := by omega
     by_cases hover : R < G * nv vl
     ·rw [decide_eq_true hover, if_pos hover] at hless
      obtain ⟨hG0, o1, o2, o3⟩ := guess_over hGV hover hVm
      obtain ⟨w2, hw2⟩ : ∃ l, l = w.take j ++ ln (n + 3) (R + 4294967296 ^ (n + 3) - G * nv vl) ++ w.drop (j + (n + 3)) := ⟨_, rfl⟩
      obtain ⟨w3, hw3⟩ : ∃ l, l = w.take j ++ ln (n + 3) (R + nv vl - G * nv vl) ++ w.drop (j + (n + 3)) := ⟨_, rfl⟩
      rw [← hw2] at hless
      have hw2l : w2.length = w.length := by rw [hw2]; simp [len_ln]; omega
      have hback := back_own (w.take j) (ln (n + 3) (R + 4294967296 ^ (n + 3) - G * nv vl)) (w.drop (j + (n + 3))) vl (lim_ln _ _) hvlim (by rw [← hw2]; omega) (by rw [len_ln]; omega)
      rw [← hw2, len_ln, nv_ln (by omega), o1, show (w.take j).length = j by simp; omega, ← hw3] at hback
      have hround := long_round hwlim (j := j) (m := n + 3) (by omega) (by omega) hqlim hZ0 (by omega) (show G - 1 < 4294967296 by omega) (by rw [← hsplit, ← hR]; exact o2) hinv o3
      rw [← hw3] at hround
      refine ⟨_, _, hC2 _ _ _ _ _ (show Good P F.nat_less [.ref 0 1 j (j + (n + 2) + 1 - j), .own 1 1, .d (.i .u64 (Ω .ci G))] [.row true T.uint32 1 (Ψ .lims w), .row true T.uint32 1 (Ψ .lims vl)] _ _ from by rw [hjm]; exact hless), ?_⟩
      refine nx ?_
      rw [i1, wrap_succ (by omega)]
      refine ⟨ci_nonneg _, by simp only [wz]; omega, by simp only [wz]; omega, Int.le_refl _, (by first | exact rfl | exact fun _ => rfl), ?_⟩
      refine ⟨_, _, hC2 _ _ _ _ _ (show Good P F.nat_back [.ref 0 1 j (j + (n + 2) + 1 - j), .own 1 1] [.row true T.uint32 1 (Ψ .lims w2), .row true T.uint32 1 (Ψ .lims vl)] _ _ from by rw [hjm]; exact hback), ?_⟩
      refine nx ?_
      refine ⟨ci_nonneg _, by simp only [wz]; omega, by show j < q.length; omega, (j, w3, q.set j (G - 1)), [1050, 1051, 1052], ⟨by simp only; omega, hround.1, by simp only; rw [hround.2.1]; exact hwlen, hround.2.2.1, by simp only; rw [hround.2.2.2.1]; exact hqlen, hround.2.2.2.2.1, hround.2.2.2.2.2⟩, by simp only; omega, rfl, ?_, ?_⟩
      ·refine Eq.trans (b := [.d (.i .i64 (Ω .ci s)), .own 1051 1, .own 1050 1, .d (.i .i64 (Ω .ci vl.length)), .own 1052 1, .d (.i .i64 _)]) rfl ?_
       rw [wrap64 (by simp only [wz]; omega) (by simp only [wz]; omega)]
      ·refine Eq.trans (b := [.row true T.uint32 1 (Ψ .lims w3), .row true T.uint32 1 (Ψ .lims vl), .row true T.uint32 1 _]) rfl ?_
       rw [show (1 : Int) = Ω .ci 1 from rfl, ci_sub (by omega), wrapu64_ci, wrapu32_ci, Nat.mod_eq_of_lt (show G - 1 < 18446744073709551616 by omega), Nat.mod_eq_of_lt (by omega), sset_lims]
     ·simp only [decide_eq_false hover, if_neg hover, Nat.add_zero] at hless
      obtain ⟨o1, o2⟩ := guess_right hgq hover hV0
      obtain ⟨w2, hw2⟩ : ∃ l, l = w.take j ++ ln (n + 3) (R - G * nv vl) ++ w.drop (j + (n + 3)) := ⟨_, rfl⟩
      have hround := long_round hwlim (j := j) (m := n + 3) (by omega) (by omega) hqlim hZ0 (by omega) hGl (by rw [← hsplit, ← hR]; exact o1) hinv o2
      rw [← hw2] at hless hround
      refine ⟨_, _, hC2 _ _ _ _ _ (show Good P F.nat_less [.ref 0 1 j (j + (n + 2) + 1 - j), .own 1 1, .d (.i .u64 (Ω .ci G))] [.row true T.uint32 1 (Ψ .lims w), .row true T.uint32 1 (Ψ .lims vl)] _ _ from by rw [hjm]; exact hless), ?_⟩
      refine nx ?_
      refine ⟨ci_nonneg _, by simp only [wz]; omega, by show j < q.length; omega, (j, w2, q.set j G), [1050, 1051, 1052], ⟨by simp only; omega, hround.1, by simp only; rw [hround.2.1]; exact hwlen, hround.2.2.1, by simp only; rw [hround.2.2.2.1]; exact hqlen, hround.2.2.2.2.1, hround.2.2.2.2.2⟩, by simp only; omega, rfl, ?_, ?_⟩
      ·refine Eq.trans (b := [.d (.i .i64 (Ω .ci s)), .own 1051 1, .own 1050 1, .d (.i .i64 (Ω .ci vl.length)), .own 1052 1, .d (.i .i64 _)]) rfl ?_
       rw [wrap64 (by simp only [wz]; omega) (by simp only [wz]; omega)]
      ·refine Eq.trans (b := [.row true T.uint32 1 (Ψ .lims w2), .row true T.uint32 1 (Ψ .lims vl), .row true T.uint32 1 _]) rfl ?_
       rw [wrapu32_ci, Nat.mod_eq_of_lt hGl, sset_lims]
    ·have hr2 : r + v1 < 4294967296 := by have := h; simp only [wz] at this; omega
     refine nx ?_
     refine ⟨(g - 1, r + v1), [1050, 1051, 1052], ⟨hgs, hgq, hr2⟩, by simp only; omega, rfl, rfl, rfl⟩
   ·have hsm : g < 4294967296 := by have := h; simp only [wz] at this; omega
    refine nx ?_
    (generalize hq : Ω .lt (Ω .ci r) 4294967296 = q; refine BrG.split (fun h => ?_) (fun h => ?_) <;> subst hq)
    ·refine nx ?_
     refine own_lims n v0 i4 hv0 ?_ ?_ ?_
     ·exact Nat.le_refl _
     ·exact rfl
     refine nx ?_
     refine own_lims (j + n) x0 (by rw [i1]; exact i5) hx0 ?_ ?_ ?_
     ·exact Nat.le_refl _
     ·exact rfl
     refine nx ?_
     have hgv : g * v0 < 18446744073709551616 := by
      have := Nat.mul_le_mul (show g ≤ 4294967295 by omega) (show v0 ≤ 4294967295 by omega)
      omega
     have hL : Ω .wrap .u64 (Ω .ci g * Ω .wrap .u64 (Ω .ci v0)) = Ω .ci (g * v0) := by
      rw [wrapu64_ci, Nat.mod_eq_of_lt (by omega), ci_mul, wrapu64_ci, Nat.mod_eq_of_lt hgv]
     have hRt : Ω .ior .u64 (Ω .ishl .u64 (Ω .ci r) 32) (Ω .wrap .u64 (Ω .ci x0)) = Ω .ci (r * 4294967296 + x0) := by
      rw [wrapu64_ci, Nat.mod_eq_of_lt (by omega), ishl32, wrapu64_ci, Nat.mod_eq_of_lt (by omega), ior64_ci (by omega) (by omega), or_shl _ l0]
     rw [hL, hRt]
     refine BrG.split (fun h => ?_) (fun h => ?_)
     ·have hbig : r * 4294967296 + x0 < g * v0 := by have := h; simp only [wz] at this; omega
      have hRl : R < g * nv vl := kn.down hg hbig
      have hg0 : 0 < g := by
       rcases Nat.eq_zero_or_pos g with c | c
       ·subst c; omega
       ·exact c
      have hgq : R / nv vl ≤ g - 1 := by
       have := (Nat.div_lt_iff_lt_mul (by omega : 0 < nv vl)).2 hRl
       omega
      refine nx ?_
      refine own_lims (n + 1) v1 i3 hv1 ?_ ?_ ?_
      ·exact Nat.le_refl _
      ·exact rfl
      refine nx ?_
      have hgm : Ω .wrap .u64 (Ω .ci g - 1) = Ω .ci (g - 1) := by
       rw [show (1 : Int) = Ω .ci 1 from rfl, ci_sub (by omega), wrapu64_ci, Nat.mod_eq_of_lt (by omega)]
      have hgs : (g - 1) * v1 + (r + v1) = T' := by
       obtain ⟨g', rfl⟩ : ∃ g', g = g' + 1 := ⟨g - 1, by omega⟩
       rw [Nat.add_mul] at hg
       simp only [Nat.add_sub_cancel]
       omega
      rw [hgm, hv1w, ci_add, wrapu64_ci, Nat.mod_eq_of_lt (by omega)]
      refine BrG.split (fun h => ?_) (fun h => ?_)
      ·have hr2 : 4294967296 ≤ r + v1 := by have := h; simp only [wz] at this; omega
       obtain ⟨hGl, hGV⟩ := kn.broke hgs hr2
       obtain ⟨G, hG⟩ : ∃ G, G = g - 1 := ⟨_, rfl⟩
       rw [← hG] at hGl hGV hgq ⊢
       refine nx ?_
       rw [i1, wrap_succ (by omega)]
       have hwsp : w = w.take j ++ (w.drop j).take (n + 3) ++ w.drop (j + (n + 3)) := by
        rw [List.append_assoc, ← List.drop_drop, List.take_append_drop, List.take_append_drop]
       have hless := less_own (w.take j) ((w.drop j).take (n + 3)) (w.drop (j + (n + 3))) vl G (lim_take (lim_drop hwlim _) _) hvlim (by rw [← hwsp]; omega) (by omega) hGl
       rw [← hwsp, hWl, show (w.take j).length = j by simp; omega, ← hsplit, ← hR] at hless
       have hV0 : 0 < nv vl := by omega
       have hVm : nv vl < 4294967296 ^ (n + 3) := Nat.lt_of_lt_of_le hVlt (B_mono (by omega))
       refine ⟨ci_nonneg _, by simp only [wz]; omega, by simp only [wz]; omega, Int.le_refl _, (by first | exact rfl | exact fun _ => rfl), ?_⟩
       have hjm : j + (n + 2) + 1 - j = n + 3 := by omega
       by_cases hover : R < G * nv vl
       ·rw [decide_eq_true hover, if_pos hover] at hless
        obtain ⟨hG0, o1, o2, o3⟩ := guess_over hGV hover hVm
        obtain ⟨w2, hw2⟩ : ∃ l, l = w.take j ++ ln (n + 3) (R + 4294967296 ^ (n + 3) - G * nv vl) ++ w.drop (j + (n + 3)) := ⟨_, rfl⟩
        obtain ⟨w3, hw3⟩ : ∃ l, l = w.take j ++ ln (n + 3) (R + nv vl - G * nv vl) ++ w.drop (j + (n + 3)) := ⟨_, rfl⟩
        rw [← hw2] at hless
        have hw2l : w2.length = w.length := by rw [hw2]; simp [len_ln]; omega
        have hback := back_own (w.take j) (ln (n + 3) (R + 4294967296 ^ (n + 3) - G * nv vl)) (w.drop (j + (n + 3))) vl (lim_ln _ _) hvlim (by rw [← hw2]; omega) (by rw [len_ln]; omega)
        rw [← hw2, len_ln, nv_ln (by omega), o1, show (w.take j).length = j by simp; omega, ← hw3] at hback
        have hround := long_round hwlim (j := j) (m := n + 3) (by omega) (by omega) hqlim hZ0 (by omega) (show G - 1 < 4294967296 by omega) (by rw [← hsplit, ← hR]; exact o2) hinv o3
        rw [← hw3] at hround
        refine ⟨_, _, hC2 _ _ _ _ _ (show Good P F.nat_less [.ref 0 1 j (j + (n + 2) + 1 - j), .own 1 1, .d (.i .u64 (Ω .ci G))] [.row true T.uint32 1 (Ψ .lims w), .row true T.uint32 1 (Ψ .lims vl)] _ _ from by rw [hjm]; exact hless), ?_⟩
        refine nx ?_
        rw [i1, wrap_succ (by omega)]
        refine ⟨ci_nonneg _, by simp only [wz]; omega, by simp only [wz]; omega, Int.le_refl _, (by first | exact rfl | exact fun _ => rfl), ?_⟩
        refine ⟨_, _, hC2 _ _ _ _ _ (show Good P F.nat_back [.ref 0 1 j (j + (n + 2) + 1 - j), .own 1 1] [.row true T.uint32 1 (Ψ .lims w2), .row true T.uint32 1 (Ψ .lims vl)] _ _ from by rw [hjm]; exact hback), ?_⟩
        refine nx ?_
        refine ⟨ci_nonneg _, by simp only [wz]; omega, by show j < q.length; omega, (j, w3, q.set j (G - 1)), [1050, 1051, 1052], ⟨by simp only; omega, hround.1, by simp only; rw [hround.2.1]; exact hwlen, hround.2.2.1, by simp only; rw [hround.2.2.2.1]; exact hqlen, hround.2.2.2.2.1, hround.2.2.2.2.2⟩, by simp only; omega, rfl, ?_, ?_⟩
        ·refine Eq.trans (b := [.d (.i .i64 (Ω .ci s)), .own 1051 1, .own 1050 1, .d (.i .i64 (Ω .ci vl.length)), .own 1052 1, .d (.i .i64 _)]) rfl ?_
         rw [wrap64 (by simp only [wz]; omega) (by simp only [wz]; omega)]
        ·refine Eq.trans (b := [.row true T.uint32 1 (Ψ .lims w3), .row true T.uint32 1 (Ψ .lims vl), .row true T.uint32 1 _]) rfl ?_
         rw [show (1 : Int) = Ω .ci 1 from rfl, ci_sub (by omega), wrapu64_ci, wrapu32_ci, Nat.mod_eq_of_lt (show G - 1 < 18446744073709551616 by omega), Nat.mod_eq_of_lt (by omega), sset_lims]
       ·simp only [decide_eq_false hover, if_neg hover, Nat.add_zero] at hless
        obtain ⟨o1, o2⟩ := guess_right hgq hover hV0
        obtain ⟨w2, hw2⟩ : ∃ l, l = w.take j ++ ln (n + 3) (R - G * nv vl) ++ w.drop (j + (n + 3)) := ⟨_, rfl⟩
        have hround := long_round hwlim (j := j) (m := n + 3) (by omega) (by omega) hqlim hZ0 (by omega) hGl (by rw [← hsplit, ← hR]; exact o1) hinv o2
        rw [← hw2] at hless hround
        refine ⟨_, _, hC2 _ _ _ _ _ (show Good P F.nat_less [.ref 0 1 j (j + (n + 2) + 1 - j), .own 1 1, .d (.i .u64 (Ω .ci G))] [.row true T.uint32 1 (Ψ .lims w), .row true T.uint32 1 (Ψ .lims vl)] _ _ from by rw [hjm]; exact hless), ?_⟩
        refine nx ?_
        refine ⟨ci_nonneg _, by simp only [wz]; omega, by show j < q.length; omega, (j, w2, q.set j G), [1050, 1051, 1052], ⟨by simp only; omega, hround.1, by simp only; rw [hround.2.1]; exact hwlen, hround.2.2.1, by simp only; rw [hround.2.2.2.1]; exact hqlen, hround.2.2.2.2.1, hround.2.2.2.2.2⟩, by simp only; omega, rfl, ?_, ?_⟩
        ·refine Eq.trans (b := [.d (.i .i64 (Ω .ci s)), .own 1051 1, .own 1050 1, .d (.i .i64 (Ω .ci vl.length)), .own 1052 1, .d (.i .i64 _)]) rfl ?_
         rw [wrap64 (by simp only [wz]; omega) (by simp only [wz]; omega)]
        ·refine Eq.trans (b := [.row true T.uint32 1 (Ψ .lims w2), .row true T.uint32 1 (Ψ .lims vl), .row true T.uint32 1 _]) rfl ?_
         rw [wrapu32_ci, Nat.mod_eq_of_lt hGl, sset_lims]
      ·have hr2 : r + v1 < 4294967296 := by have := h; simp only [wz] at this; omega
       refine nx ?_
       refine ⟨(g - 1, r + v1), [1050, 1051, 1052], ⟨hgs, hgq, hr2⟩, by simp only; omega, rfl, rfl, rfl⟩
     ·have hno : g * v0 ≤ r * 4294967296 + x0 := by have := h; simp only [wz] at this; omega
      have hGV := kn.last hg hsm hno
      obtain ⟨G, hG⟩ : ∃ G, G = g := ⟨_, rfl⟩
      have hgq := hge
      have hGl := hsm
      rw [← hG] at hGl hGV hgq ⊢
      refine nx ?_
      rw [i1, wrap_succ (by omega)]
      have hwsp : w = w.take j ++ (w.drop j).take (n + 3) ++ w.drop (j + (n + 3)) := by
       rw [List.append_assoc, ← List.drop_drop, List.take_append_drop, List.take_append_drop]
      have hless := less_own (w.take j) ((w.drop j).take (n + 3)) (w.drop (j + (n + 3))) vl G (lim_take (lim_drop hwlim _) _) hvlim (by rw [← hwsp]; omega) (by omega) hGl
      rw [← hwsp, hWl, show (w.take j).length = j by simp; omega, ← hsplit, ← hR] at hless
      have hV0 : 0 < nv vl := by omega
      have hVm : nv vl < 4294967296 ^ (n + 3) := Nat.lt_of_lt_of_le hVlt (B_mono (by omega))
      refine ⟨ci_nonneg _, by simp only [wz]; omega, by simp only [wz]; omega, Int.le_refl _, (by first | exact rfl | exact fun _ => rfl), ?_⟩
      have hjm : j + (n + 2) + 1 - j = n + 3 := by omega
      by_cases hover : R < G * nv vl
      ·rw [decide_eq_true hover, if_pos hover] at hless
       obtain ⟨hG0, o1, o2, o3⟩ := guess_over hGV hover hVm
       obtain ⟨w2, hw2⟩ : ∃ l, l = w.take j ++ ln (n + 3) (R + 4294967296 ^ (n + 3) - G * nv vl) ++ w.drop (j + (n + 3)) := ⟨_, rfl⟩
       obtain ⟨w3, hw3⟩ : ∃ l, l = w.take j ++ ln (n + 3) (R + nv vl - G * nv vl) ++ w.drop (j + (n + 3)) := ⟨_, rfl⟩
       rw [← hw2] at hless
       have hw2l : w2.length = w.length := by rw [hw2]; simp [len_ln]; omega
       have hback := back_own (w.take j) (ln (n + 3) (R + 4294967296 ^ (n + 3) - G * nv vl)) (w.drop (j + (n + 3))) vl (lim_ln _ _) hvlim (by rw [← hw2]; omega) (by rw [len_ln]; omega)
       rw [← hw2, len_ln, nv_ln (by omega), o1, show (w.take j).length = j by simp; omega, ← hw3] at hback
       have hround := long_round hwlim (j := j) (m := n + 3) (by omega) (by omega) hqlim hZ0 (by omega) (show G - 1 < 4294967296 by omega) (by rw [← hsplit, ← hR]; exact o2) hinv o3
       rw [← hw3] at hround
       refine ⟨_, _, hC2 _ _ _ _ _ (show Good P F.nat_less [.ref 0 1 j (j + (n + 2) + 1 - j), .own 1 1, .d (.i .u64 (Ω .ci G))] [.row true T.uint32 1 (Ψ .lims w), .row true T.uint32 1 (Ψ .lims vl)] _ _ from by rw [hjm]; exact hless), ?_⟩
       refine nx ?_
       rw [i1, wrap_succ (by omega)]
       refine ⟨ci_nonneg _, by simp only [wz]; omega, by simp only [wz]; omega, Int.le_refl _, (by first | exact rfl | exact fun _ => rfl), ?_⟩
       refine ⟨_, _, hC2 _ _ _ _ _ (show Good P F.nat_back [.ref 0 1 j (j + (n + 2) + 1 - j), .own 1 1] [.row true T.uint32 1 (Ψ .lims w2), .row true T.uint32 1 (Ψ .lims vl)] _ _ from by rw [hjm]; exact hback), ?_⟩
       refine nx ?_
       refine ⟨ci_nonneg _, by simp only [wz]; omega, by show j < q.length; omega, (j, w3, q.set j (G - 1)), [1050, 1051, 1052], ⟨by simp only; omega, hround.1, by simp only; rw [hround.2.1]; exact hwlen, hround.2.2.1, by simp only; rw [hround.2.2.2.1]; exact hqlen, hround.2.2.2.2.1, hround.2.2.2.2.2⟩, by simp only; omega, rfl, ?_, ?_⟩
       ·refine Eq.trans (b := [.d (.i .i64 (Ω .ci s)), .own 1051 1, .own 1050 1, .d (.i .i64 (Ω .ci vl.length)), .own 1052 1, .d (.i .i64 _)]) rfl ?_
        rw [wrap64 (by simp only [wz]; omega) (by simp only [wz]; omega)]
       ·refine Eq.trans (b := [.row true T.uint32 1 (Ψ .lims w3), .row true T.uint32 1 (Ψ .lims vl), .row true T.uint32 1 _]) rfl ?_
        rw [show (1 : Int) = Ω .ci 1 from rfl, ci_sub (by omega), wrapu64_ci, wrapu32_ci, Nat.mod_eq_of_lt (show G - 1 < 18446744073709551616 by omega), Nat.mod_eq_of_lt (by omega), sset_lims]
      ·simp only [decide_eq_false hover, if_neg hover, Nat.add_zero] at hless
       obtain ⟨o1, o2⟩ := guess_right hgq hover hV0
       obtain ⟨w2, hw2⟩ : ∃ l, l = w.take j ++ ln (n + 3) (R - G * nv vl) ++ w.drop (j + (n + 3)) := ⟨_, rfl⟩
       have hround := long_round hwlim (j := j) (m := n + 3) (by omega) (by omega) hqlim hZ0 (by omega) hGl (by rw [← hsplit, ← hR]; exact o1) hinv o2
       rw [← hw2] at hless hround
       refine ⟨_, _, hC2 _ _ _ _ _ (show Good P F.nat_less [.ref 0 1 j (j + (n + 2) + 1 - j), .own 1 1, .d (.i .u64 (Ω .ci G))] [.row true T.uint32 1 (Ψ .lims w), .row true T.uint32 1 (Ψ .lims vl)] _ _ from by rw [hjm]; exact hless), ?_⟩
       refine nx ?_
       refine ⟨ci_nonneg _, by simp only [wz]; omega, by show j < q.length; omega, (j, w2, q.set j G), [1050, 1051, 1052], ⟨by simp only; omega, hround.1, by simp only; rw [hround.2.1]; exact hwlen, hround.2.2.1, by simp only; rw [hround.2.2.2.1]; exact hqlen, hround.2.2.2.2.1, hround.2.2.2.2.2⟩, by simp only; omega, rfl, ?_, ?_⟩
       ·refine Eq.trans (b := [.d (.i .i64 (Ω .ci s)), .own 1051 1, .own 1050 1, .d (.i .i64 (Ω .ci vl.length)), .own 1052 1, .d (.i .i64 _)]) rfl ?_
        rw [wrap64 (by simp only [wz]; omega) (by simp only [wz]; omega)]
       ·refine Eq.trans (b := [.row true T.uint32 1 (Ψ .lims w2), .row true T.uint32 1 (Ψ .lims vl), .row true T.uint32 1 _]) rfl ?_
        rw [wrapu32_ci, Nat.mod_eq_of_lt hGl, sset_lims]
    ·exfalso
     have := h; simp only [wz] at this; omega
  ·rw [wrap64 (by simp only [wz]; omega) (by simp only [wz]; omega)] at h
   have hk0 : k = 0 := by have := h; simp only [wz] at this; omega
   subst hk0
   simp only [Nat.pow_zero, Nat.one_mul, List.drop_zero] at hinv hrem
   have hVlt : nv vl < 4294967296 ^ (n + 2) := by have := nv_lt hvlim; rwa [hvlen] at this
   have hp2 : 0 < 2 ^ s := Nat.pow_pos (by omega)
   obtain ⟨f1, f2⟩ := divmod_unique (Q := nv q) (b := nv vl) (r := nv w) (X := nv a * 2 ^ s) (by rw [Nat.mul_comm]; omega) hrem
   rw [hvn, Nat.mul_div_mul_right _ _ hp2] at f1
   rw [hvn, Nat.mul_mod_mul_right] at f2
   have hwt : nv (w.take (n + 2)) = nv w := by
    have h1 := nv_split w (n + 2) (by omega)
    rcases Nat.eq_zero_or_pos (nv (w.drop (n + 2))) with c | c
    ·rw [c] at h1; omega
    ·have := Nat.mul_le_mul_left (4294967296 ^ (n + 2)) c
     omega
   have hg1 := trim_good q hqlim (by omega)
   have hg2 := shr_good (w.take (n + 2)) s ⟨lim_take hwlim _, by simp; omega⟩ hs32
   rw [← f1] at hg1
   rw [hwt, ← f2, Nat.mul_div_cancel _ hp2] at hg2
   refine nx ?_
   refine ⟨_, hC _ _ _ hg1, ?_⟩
   refine nx ?_
   refine ⟨ci_nonneg _, by simp only [wz]; omega, Int.le_refl _, (by first | exact rfl | exact fun _ => rfl), ?_⟩
   rw [ssub_lims, List.drop_zero, Nat.sub_zero, show Ω .leb (Ω .nadd 0 (Ω .nsub vl.length 0)) w.length = true from decide_eq_true (by show 0 + (vl.length - 0) ≤ w.length; omega), hvlen]
   obtain ⟨w5, hw5⟩ : ∃ l, l = w.take (n + 2) := ⟨_, rfl⟩
   rw [← hw5] at hg2 ⊢
   refine nx ?_
   refine ⟨_, hC _ _ _ hg2, ?_⟩
   exact nx trivial
end Go.K.S
end
section
namespace Go.K.S
open Go Go.K
theorem cmp_good (a b : List Nat) (ha : N a) (hb : N b) : Good P F.nat_Cmp [.d (dN Ψ a), .d (dN Ψ b)] [] (.d (.i .i64 (Ψ .cmpI (nv a) (nv b)))) [] := by
 refine G.nat_Cmp fun C C2 hC hC2 => ?_
 refine nx ?_
 refine ⟨_, hC _ _ _ (trim_good a ha.lim ha.len), ?_⟩
 refine nx ?_
 refine ⟨_, hC _ _ _ (trim_good b hb.lim hb.len), ?_⟩
 have hna := ha.cn
 have hnb := hb.cn
 have hlt1 : (Ψ .cn (nv a)).length < (Ψ .cn (nv b)).length → nv a < nv b := cn_len_lt
 have hlt2 : (Ψ .cn (nv b)).length < (Ψ .cn (nv a)).length → nv b < nv a := cn_len_lt
 have hva := nv_cn (nv a)
 have hvb := nv_cn (nv b)
 generalize Ψ .cn (nv a) = x at *
 generalize Ψ .cn (nv b) = y at *
 have hxl := hna.len
 have hyl := hnb.len
 refine nx ?_
 refine BrG.split (fun h => ?_) (fun h => ?_)
 ·have hne : x.length ≠ y.length := by have := h; simp only [wz] at this; omega
  refine nx ?_
  refine BrG.split (fun h => ?_) (fun h => ?_)
  ·have := h
   have hl : x.length < y.length := by simp only [wz] at this; omega
   refine nx ?_
   have := hlt1 hl
   simp only [p_cmpI, this, if_true]
  ·have := h
   have hl : y.length < x.length := by simp only [wz] at this; omega
   refine nx ?_
   have := hlt2 hl
   simp only [p_cmpI, this, if_true, if_neg (show ¬ nv a < nv b by omega)]
 ·have he : x.length = y.length := by have := h; simp only [wz] at this; omega
  refine nx ?_
  refine LoopG.intro (σ := Nat) [0, 1, 5] [] (fun k => [.d (dN Ψ x), .d (dN Ψ y), .d (.i .i64 (Ω .wrap .i64 (Ω .ci k - 1)))]) (fun _ => []) (fun k => k ≤ x.length ∧ x.drop k = y.drop k) (fun k => k) x.length []
   ⟨Nat.le_refl _, by rw [List.drop_length, he, List.drop_length]⟩ ⟨rfl, ?_, rfl⟩ ?_
  ·rfl
  rintro k ⟨hk, hd⟩
  refine nx ?_
  refine BrG.split (fun h => ?_) (fun h => ?_)
  ·rw [wrap64 (by simp only [wz]; omega) (by simp only [wz]; omega)] at h
   have hk0 : 0 < k := by simp only [wz] at h; omega
   have hk1 : Ω .wrap .i64 (Ω .ci k - 1) = Ω .ci (k - 1) := wrap_pred hk0 (by omega)
   obtain ⟨u, hu⟩ : ∃ u, x[k - 1]? = some u := ⟨_, List.getElem?_eq_getElem (by omega)⟩
   obtain ⟨v, hv⟩ : ∃ v, y[k - 1]? = some v := ⟨_, List.getElem?_eq_getElem (by omega)⟩
   have hkk : k - 1 + 1 = k := by omega
   refine nx ?_
   refine idx_lims (k - 1) u hk1 hu rfl ?_
   refine nx ?_
   refine idx_lims (k - 1) v hk1 hv rfl ?_
   refine nx ?_
   refine BrG.split (fun h => ?_) (fun h => ?_)
   ·have := h
    have huv : u < v := by simp only [wz] at this; omega
    have := nv_lt_of hna.lim hu hv (by rw [hkk]; exact hd) huv
    rw [hva, hvb] at this
    refine nx ?_
    simp only [p_cmpI, this, if_true]
   ·have h1 := h
    refine nx ?_
    refine idx_lims (k - 1) u hk1 hu rfl ?_
    refine nx ?_
    refine idx_lims (k - 1) v hk1 hv rfl ?_
    refine nx ?_
    refine BrG.split (fun h => ?_) (fun h => ?_)
    ·have := h
     have huv : v < u := by simp only [wz] at this; omega
     have := nv_lt_of hnb.lim hv hu (by rw [hkk]; exact hd.symm) huv
     rw [hva, hvb] at this
     refine nx ?_
     simp only [p_cmpI, this, if_true, if_neg (show ¬ nv a < nv b by omega)]
    ·have h2 := h
     have huv : u = v := by simp only [wz] at h1 h2; omega
     refine nx ?_
     refine ⟨k - 1, [], ⟨by omega, ?_⟩, by omega, rfl, ?_, rfl⟩
     ·obtain ⟨q1, rfl⟩ := List.getElem?_eq_some_iff.1 hu
      obtain ⟨q2, e⟩ := List.getElem?_eq_some_iff.1 hv
      rw [List.drop_eq_getElem_cons q1, List.drop_eq_getElem_cons q2, e, hkk, huv, hd]
     ·refine Eq.trans (b := [V.d (dN Ψ x), V.d (dN Ψ y), V.d (.i .i64 _)]) rfl ?_
      rw [hk1]
  ·rw [wrap64 (by simp only [wz]; omega) (by simp only [wz]; omega)] at h
   have hk0 : k = 0 := by simp only [wz] at h; omega
   subst hk0
   have : x = y := by simpa using hd
   subst this
   have hab : nv a = nv b := by omega
   refine nx ?_
   rw [hab]
   simp only [p_cmpI, if_neg (Nat.lt_irrefl _)]
end Go.K.S
end
section
namespace Go.K.S
open Go Go.K
theorem divmod_good (a b : List Nat) (ha : N a) (hb : N b) (hal : a.length < 549755813888) (hb0 : nv b ≠ 0) :
  Good P F.nat_DivMod [.d (dN Ψ a), .d (dN Ψ b)] [] (.tup [.d (dN Ψ (Ψ .cn (nv a / nv b))), .d (dN Ψ (Ψ .cn (nv a % nv b))), .d (.b true)]) [] := by
 refine G.nat_DivMod fun C C2 hC hC2 => ?_
 refine nx ?_
 refine ⟨_, hC _ _ _ (trim_good a ha.lim ha.len), ?_⟩
 refine nx ?_
 refine ⟨_, hC _ _ _ (trim_good b hb.lim hb.len), ?_⟩
 have hna := ha.cn
 have hnb := hb.cn
 have hva := nv_cn (nv a)
 have hvb := nv_cn (nv b)
 have hcb := cano_cn (nv b)
 have hla : (Ψ .cn (nv a)).length ≤ a.length := len_cn_nv ha.lim
 have hlb : nv b ≤ nv a → (Ψ .cn (nv b)).length ≤ (Ψ .cn (nv a)).length := fun h => by
  rcases Nat.lt_or_ge (Ψ .cn (nv a)).length (Ψ .cn (nv b)).length with c | c
  ·have := cn_len_lt c; omega
  ·exact c
 generalize Ψ .cn (nv a) = x at *
 generalize Ψ .cn (nv b) = y at *
 have hyl := hnb.len
 refine nx ?_
 refine BrG.split (fun h => ?_) (fun h => ?_)
 ·exfalso
  have h0 : y.length = 0 := by have := h; simp only [wz] at this ⊢; omega
  have : y = [] := List.eq_nil_of_length_eq_zero h0
  subst this
  exact hb0 hvb.symm
 ·have h0 : y.length ≠ 0 := by have := h; simp only [wz] at this ⊢; omega
  refine nx ?_
  refine ⟨_, hC _ _ _ (cmp_good x y hna hnb), ?_⟩
  rw [hva, hvb]
  refine nx ?_
  refine BrG.split (fun h => ?_) (fun h => ?_)
  ·have hlt : nv a < nv b := cmpI_neg.1 (of_decide_eq_true h)
   refine nx ?_
   have hg := norm_good x hna
   rw [hva] at hg
   refine ⟨_, hC _ _ _ hg, ?_⟩
   rw [Nat.div_eq_of_lt hlt, Nat.mod_eq_of_lt hlt, cn_zero]
   refine nx ?_
   rfl
  ·have hge : nv b ≤ nv a := by
    have := mt (cmpI_neg (m := nv a) (n := nv b)).2 (of_decide_eq_false h)
    omega
   have hlen := hlb hge
   refine nx ?_
   refine BrG.split (fun h => ?_) (fun h => ?_)
   ·have h1 : y.length = 1 := by have := h; simp only [wz] at this; omega
    obtain ⟨d, rfl⟩ := List.length_eq_one_iff.1 h1
    have hd : nv b = d := by rw [← hvb]; simp
    have hdl : d < 4294967296 := (lim_cons.1 hnb.lim).1
    refine nx ?_
    refine (idx_lims (l := [d]) 0 d rfl rfl rfl ?_).2
    refine nx ?_
    have hg := small_good x d hna (by omega) hdl
    rw [hva, ← hd] at hg
    rw [← hd]
    refine nx ?_
    refine ⟨_, hC _ _ _ hg, ?_⟩
    exact nx trivial
   ·have h1 : y.length ≠ 1 := by have := h; simp only [wz] at this; omega
    refine nx ?_
    have hg := long_good x y hna hnb hcb (by omega) (by omega) (by omega)
    rw [hva, hvb] at hg
    refine ⟨_, hC _ _ _ hg, ?_⟩
    exact nx trivial
end Go.K.S
end
section
namespace Go.K.S
open Go Go.K
theorem gcd_good (a b : List Nat) (ha : N a) (hb : N b) (hal : a.length < 549755813888) (hbl : b.length < 549755813888) :
  Good P F.root_Gcd [.d (dN Ψ a), .d (dN Ψ b)] [] (.d (dN Ψ (Ψ .cn ((nv a).gcd (nv b))))) [] := by
 refine G.root_Gcd fun C C2 hC hC2 => ?_
 refine nx ?_
 refine ⟨_, hC _ _ _ (norm_good a ha), ?_⟩
 refine nx ?_
 refine ⟨_, hC _ _ _ (norm_good b hb), ?_⟩
 refine nx ?_
 obtain ⟨m, hm⟩ : ∃ m, m = 549755813887 := ⟨_, rfl⟩
 have hM : nv a < 4294967296 ^ m := Nat.lt_of_lt_of_le (nv_lt ha.lim) (B_mono (by omega))
 have hM' : nv b < 4294967296 ^ m := Nat.lt_of_lt_of_le (nv_lt hb.lim) (B_mono (by omega))
 have hN : ∀ n, n < 4294967296 ^ m → N (Ψ .cn n) ∧ (Ψ .cn n).length ≤ m := fun n h => ⟨⟨lim_cn _, by have := len_cn.2 h; omega⟩, len_cn.2 h⟩
 refine LoopG.intro (σ := Nat × Nat) [0, 1] [] (fun s => [.d (dN Ψ (Ψ .cn s.1)), .d (dN Ψ (Ψ .cn s.2))]) (fun _ => [])
  (fun s => s.1 < 4294967296 ^ m ∧ s.2 < 4294967296 ^ m ∧ s.1.gcd s.2 = (nv a).gcd (nv b)) (fun s => s.2) (nv a, nv b) [] ⟨hM, hM', rfl⟩ ⟨rfl, rfl, rfl⟩ ?_
 rintro ⟨x, y⟩ ⟨hx, hy, he⟩
 simp only at hx hy he
 refine nx ?_
 refine BrG.split (fun h => ?_) (fun h => ?_)
 ·have hy0 : y ≠ 0 := by
   rintro rfl
   rw [cn_zero] at h
   simp [wz] at h
  have hg := divmod_good (Ψ .cn x) (Ψ .cn y) (hN x hx).1 (hN y hy).1 (by have := (hN x hx).2; omega) (by rw [nv_cn]; exact hy0)
  rw [nv_cn, nv_cn] at hg
  refine nx ?_
  refine ⟨_, hC _ _ _ hg, ?_⟩
  refine nx ?_
  have hlt := Nat.mod_lt x (Nat.pos_of_ne_zero hy0)
  refine ⟨(y, x % y), [], ⟨hy, by simp only; omega, ?_⟩, hlt, rfl, rfl, rfl⟩
  simp only
  rw [← he, Nat.gcd_comm y, ← Nat.gcd_rec, Nat.gcd_comm]
 ·have hy0 : y = 0 := by
   have h1 : (Ψ .cn y).length = 0 := by
    have := of_decide_eq_false h
    simp only [wz] at this
    omega
   exact cn_eq_nil.1 (List.eq_nil_of_length_eq_zero h1)
  subst hy0
  rw [Nat.gcd_zero_right] at he
  subst he
  exact nx trivial
end Go.K.S
end
section
namespace Go.K
theorem cn_gt_one {g : Nat} (hg : g ≠ 0) : (1 < (Ψ .cn g).length ∨ ∃ v, (Ψ .cn g)[0]? = some v ∧ (Ψ .cn g).length = 1 ∧ v = g) := by
 obtain ⟨x, m, hl, hx, h0, hxl, h1, h2, h3⟩ := cn_top hg
 rcases Nat.eq_zero_or_pos m with c | c
 ·subst c
  refine .inr ⟨x, hx, by omega, ?_⟩
  simp at h3
  exact h3.symm
 ·exact .inl (by omega)
end Go.K
namespace Go.K.S
open Go Go.K
theorem one_good : Good P F.rat_one [] [] (.d (dN Ψ [1])) [] := by
 refine G.rat_one fun C C2 hC hC2 => ?_
 refine nx ?_
 rfl
theorem made_good (b : Bool) (x y : List Nat) (hx : N x) (hy : N y) (hxl : x.length < 549755813888) (hyl : y.length < 549755813888) :
  Good P F.rat_made [.d (.b b), .d (dN Ψ x), .d (dN Ψ y)] [] (.d (.agg (dR Ψ (Ψ .cr (mkRat (sg b (nv x)) (nv y)))))) [] := by
 refine G.rat_made fun C C2 hC hC2 => ?_
 have g1 := norm_good x hx
 have g2 := norm_good y hy
 have hnx := hx.cn
 have hny := hy.cn
 have hlx := len_cn_nv hx.lim
 have hly := len_cn_nv hy.lim
 generalize nv x = m at *
 generalize nv y = n at *
 obtain ⟨R, hR⟩ : ∃ R, R = Ψ .cr (mkRat (sg b m) n) := ⟨_, rfl⟩
 rw [← hR]
 have hz : m = 0 ∨ n = 0 → R = ⟨false, [], [1]⟩ := fun h => by
  rw [hR, ← cr_zero]
  rcases h with rfl | rfl
  ·rw [mk_zero_num]
  ·rw [mk_zero_den]
 refine nx ?_
 refine ⟨_, hC _ _ _ g1, ?_⟩
 refine nx ?_
 refine ⟨_, hC _ _ _ g2, ?_⟩
 refine nx ?_
 refine BrG.split (fun h => ?_) (fun h => ?_)
 ·have h0 : m = 0 := cn_eq_nil.1 (List.eq_nil_of_length_eq_zero (by have := h; simp only [wz] at this ⊢; omega))
  have := hz (.inl h0)
  subst this
  refine nx ?_
  refine ⟨_, hC _ _ _ one_good, ?_⟩
  refine nx ?_
  rfl
 ·have h0 : m ≠ 0 := fun q => by subst q; rw [cn_zero] at h; simp [wz] at h
  refine nx ?_
  refine BrG.split (fun h => ?_) (fun h => ?_)
  ·have h0 : n = 0 := cn_eq_nil.1 (List.eq_nil_of_length_eq_zero (by have := h; simp only [wz] at this ⊢; omega))
   have := hz (.inr h0)
   subst this
   refine nx ?_
   refine ⟨_, hC _ _ _ one_good, ?_⟩
   refine nx ?_
   rfl
  ·have h1 : n ≠ 0 := fun q => by subst q; rw [cn_zero] at h; simp [wz] at h
   have g3 := gcd_good (Ψ .cn m) (Ψ .cn n) hnx hny (by omega) (by omega)
   rw [nv_cn, nv_cn] at g3
   have hg0 : m.gcd n ≠ 0 := Nat.gcd_ne_zero_left h0
   have hcr := cr_mk (b := b) h0 h1
   rw [← hR] at hcr
   obtain ⟨g, hg⟩ : ∃ g, g = m.gcd n := ⟨_, rfl⟩
   have hgl : (Ψ .cn g).length ≤ (Ψ .cn m).length := len_cn_eq (by rw [hg]; exact Nat.gcd_le_left n (Nat.pos_of_ne_zero h0))
   rw [← hg] at g3 hg0 hcr
   have g4 := divmod_good (Ψ .cn m) (Ψ .cn g) hnx ⟨lim_cn _, by have := hnx.len; omega⟩ (by omega) (by rw [nv_cn]; exact hg0)
   have g5 := divmod_good (Ψ .cn n) (Ψ .cn g) hny ⟨lim_cn _, by have := hnx.len; omega⟩ (by omega) (by rw [nv_cn]; exact hg0)
   rw [nv_cn, nv_cn] at g4 g5
   refine nx ?_
   refine ⟨_, hC _ _ _ g3, ?_⟩
   refine nx ?_
   refine BrG.split (fun h => ?_) (fun h => ?_)
   ·refine nx ?_
    refine ⟨_, hC _ _ _ g4, ?_⟩
    refine nx ?_
    refine ⟨_, hC _ _ _ g5, ?_⟩
    subst hcr
    exact nx trivial
   ·have hle : (Ψ .cn g).length = 1 := by
     have := h; simp only [wz] at this
     have h3 : (Ψ .cn g).length ≠ 0 := fun q => hg0 (cn_eq_nil.1 (List.eq_nil_of_length_eq_zero q))
     omega
    obtain ⟨v, hv, _, hvg⟩ := (cn_gt_one hg0).resolve_left (by omega)
    refine nx ?_
    refine (idx_lims (l := Ψ .cn g) 0 v rfl hv rfl ?_).2
    refine nx ?_
    refine BrG.split (fun h => ?_) (fun h => ?_)
    ·refine nx ?_
     refine ⟨_, hC _ _ _ g4, ?_⟩
     refine nx ?_
     refine ⟨_, hC _ _ _ g5, ?_⟩
     subst hcr
     exact nx trivial
    ·have hg1 : g = 1 := by
      have := h; simp only [wz] at this
      omega
     subst hg1
     rw [Nat.div_one, Nat.div_one] at hcr
     subst hcr
     exact nx trivial
theorem read_good (r : RL) {k : Nat} (h : Rn k r) (hk : k < 549755813888) : Good P F.rat_Read [.d (.agg (dR Ψ r))] [] (.d (.agg (dR Ψ (Ψ .cr (rv r))))) [] := by
 refine G.rat_Read fun C C2 hC hC2 => ?_
 have g := made_good r.neg r.num r.den ⟨h.ln, by have := h.kn; omega⟩ ⟨h.ld, by have := h.kd; omega⟩ (by have := h.kn; omega) (by have := h.kd; omega)
 rw [← rv_mk] at g
 obtain ⟨b, x, y⟩ := r
 obtain ⟨R, hR⟩ : ∃ R, R = Ψ .cr (rv ⟨b, x, y⟩) := ⟨_, rfl⟩
 simp only at g
 rw [← hR] at g ⊢
 refine nx ?_
 refine ⟨_, hC _ _ _ g, ?_⟩
 exact nx trivial
end Go.K.S
end
section
namespace Go.K
open Go
theorem sget_dRs (l : List RL) (k : Nat) : Ω .sget (Ψ .dRs l) k = (l[k]?).map fun r => (D.agg (dR Ψ r) : D) := by simp [w_sget, p_dRs]
theorem idx_dRs {l : List RL} {k : Int} {sz : Nat} {R : D → Prop} (kn : Nat) (r : RL) (hk : k = Ω .ci kn) (hv : l[kn]? = some r) (hsz : 3 = sz) (h : R (.agg (dR Ψ r))) :
  Ω .ile 0 k ∧ ∃ x, Ω .sget (Ψ .dRs l) (Ω .tn k) = some x ∧ x.cells.length = sz ∧ R x := by
 subst hk
 refine ⟨ci_nonneg _, .agg (dR Ψ r), ?_, hsz, h⟩
 rw [tn_ci, sget_dRs, hv]; rfl
def wh (r : RL) : RL := if nv r.den = 0 then ⟨false, [], [1]⟩ else r
theorem wh_zero {r : RL} (h : nv r.den = 0) : wh r = ⟨false, [], [1]⟩ := if_pos h
theorem wh_ne {r : RL} (h : nv r.den ≠ 0) : wh r = r := if_neg h
theorem rv_wh (r : RL) : rv (wh r) = rv r := by
 unfold wh
 split
 ·rename_i h
  simp [rv, h, sg]
 ·rfl
theorem wh_den (r : RL) : nv (wh r).den ≠ 0 := by
 unfold wh
 split
 ·simp
 ·assumption
theorem Rn_wh {r : RL} {k : Nat} (h : Rn k r) (hk : 0 < k) : Rn k (wh r) := by
 unfold wh
 split
 ·exact ⟨lim_nil, by simp [lim_cons, lim_nil], by simp, by simp; omega⟩
 ·exact h
theorem Rn.N1 {r : RL} {k : Nat} (h : Rn k r) (hk : k < 1099511627776) : N r.num := ⟨h.ln, by have := h.kn; omega⟩
theorem Rn.N2 {r : RL} {k : Nat} (h : Rn k r) (hk : k < 1099511627776) : N r.den := ⟨h.ld, by have := h.kd; omega⟩
theorem N_cn {n k : Nat} (h : n < 4294967296 ^ k) (hk : k < 1099511627776) : N (Ψ .cn n) := ⟨lim_cn _, by have := len_cn.2 h; omega⟩
theorem nv_lt_pow {l : List Nat} {k : Nat} (h : lim l) (hk : l.length ≤ k) : nv l < 4294967296 ^ k := Nat.lt_of_lt_of_le (nv_lt h) (B_mono hk)
theorem rv_add {a b : RL} (ha : nv a.den ≠ 0) (hb : nv b.den ≠ 0) :
  rv a + rv b = mkRat (sg a.neg (nv a.num * nv b.den) + sg b.neg (nv b.num * nv a.den)) (nv a.den * nv b.den) := by
 simp only [rv]
 rw [Rat.mkRat_add_mkRat _ _ ha hb, sg_mul_nat, sg_mul_nat]
theorem rv_zero_iff {r : RL} : rv r = 0 ↔ nv r.num = 0 ∨ nv r.den = 0 := by
 simp only [rv]
 by_cases h : nv r.den = 0
 ·simp [h]
 ·rw [Rat.mkRat_eq_zero h, sg_eq_zero]; simp [h]
theorem cr_num_nil {q : Rat} : (Ψ .cr q).num = [] ↔ q = 0 := by
 simp only [p_cr, cn_eq_nil]
 simp
end Go.K
namespace Go.K
open Go
theorem cr_mul {p q : Rat} (hp : p ≠ 0) (hq : q ≠ 0) : Ψ .cr (p * q) =
  ⟨(Ψ .cr p).neg != (Ψ .cr q).neg, Ψ .cn (p.num.natAbs / p.num.natAbs.gcd q.den * (q.num.natAbs / q.num.natAbs.gcd p.den)), Ψ .cn (q.den / p.num.natAbs.gcd q.den * (p.den / q.num.natAbs.gcd p.den))⟩ := by
 have hn : (p * q).num = p.num.tdiv (p.num.natAbs.gcd q.den) * q.num.tdiv (q.num.natAbs.gcd p.den) := by
  show (Rat.mul p q).num = _
  unfold Rat.mul
  simp only [Int.divExact_eq_tdiv]
 have hd : (p * q).den = p.den / q.num.natAbs.gcd p.den * (q.den / p.num.natAbs.gcd q.den) := by
  show (Rat.mul p q).den = _
  unfold Rat.mul
  simp only [Nat.divExact_eq_div]
 have hab : (p * q).num.natAbs = p.num.natAbs / p.num.natAbs.gcd q.den * (q.num.natAbs / q.num.natAbs.gcd p.den) := by
  rw [hn, Int.natAbs_mul, Int.natAbs_tdiv, Int.natAbs_tdiv]
  rfl
 have hp0 : p.num ≠ 0 := by simpa [wz] using hp
 have hq0 : q.num ≠ 0 := by simpa [wz] using hq
 have hneg : decide ((p * q).num < 0) = (decide (p.num < 0) != decide (q.num < 0)) := by
  have h1 : (p * q).num < 0 ↔ p.num * q.num < 0 := by
   have e1 := @Rat.num_nonneg (p * q)
   have e2 : 0 ≤ p * q ↔ 0 ≤ p.num * q.num := by
    rw [Rat.mul_def' p q]
    have := @mk_lt_zero (p.num * q.num) (p.den * q.den) (Nat.mul_ne_zero p.den_nz q.den_nz)
    rw [← Rat.not_lt, this]
    omega
   have e3 : 0 ≤ (p * q).num ↔ 0 ≤ p.num * q.num := e1.trans e2
   omega
  rcases Int.lt_or_gt_of_ne hp0 with c1 | c1 <;> rcases Int.lt_or_gt_of_ne hq0 with c2 | c2
  ·have := Int.mul_pos_of_neg_of_neg c1 c2
   rw [decide_eq_true c1, decide_eq_true c2]
   simp only [bne_self_eq_false]
   exact decide_eq_false (by omega)
  ·have := Int.mul_neg_of_neg_of_pos c1 c2
   rw [decide_eq_true c1, decide_eq_false (by omega : ¬ q.num < 0)]
   exact decide_eq_true (by omega)
  ·have := Int.mul_neg_of_pos_of_neg c1 c2
   rw [decide_eq_false (by omega : ¬ p.num < 0), decide_eq_true c2]
   exact decide_eq_true (by omega)
  ·have := Int.mul_pos c1 c2
   rw [decide_eq_false (by omega : ¬ p.num < 0), decide_eq_false (by omega : ¬ q.num < 0)]
   exact decide_eq_false (by omega)
 simp only [p_cr, hab, hd, hneg]
 rw [Nat.mul_comm (p.den / _)]
def rsum (l : List RL) : Rat := (l.map rv).foldl (· + ·) 0
def rprod (l : List RL) : Rat := (l.map rv).foldl (· * ·) 1
theorem rsum_snoc (l : List RL) (r : RL) : rsum (l ++ [r]) = rsum l + rv r := by simp [rsum]
theorem rprod_snoc (l : List RL) (r : RL) : rprod (l ++ [r]) = rprod l * rv r := by simp [rprod]
theorem take_succ_of {α : Type} {l : List α} {i : Nat} {x : α} (h : l[i]? = some x) : l.take (i + 1) = l.take i ++ [x] := by
 rw [List.take_add_one, h]; rfl
theorem cr_one : Ψ .cr 1 = ⟨false, [1], [1]⟩ := by
 have h2 : Ψ .cn 1 = [1] := cn_one
 simp [p_cr, h2]
end Go.K
namespace Go.K
open Go
theorem sI_vals (q : Rat) : Ψ .sI q = -1 ∧ q < 0 ∨ Ψ .sI q = 0 ∧ q = 0 ∨ Ψ .sI q = 1 ∧ 0 < q := by
 simp only [p_sI]
 by_cases h1 : q < 0
 ·rw [if_pos h1]; exact .inl ⟨rfl, h1⟩
 ·by_cases h2 : 0 < q
  ·rw [if_neg h1, if_pos h2]; exact .inr (.inr ⟨rfl, h2⟩)
  ·rw [if_neg h1, if_neg h2]; exact .inr (.inl ⟨rfl, Rat.le_antisymm (Rat.not_lt.1 h2) (Rat.not_lt.1 h1)⟩)
theorem cI_vals (p q : Rat) : Ψ .cI p q = -1 ∧ p < q ∨ Ψ .cI p q = 0 ∧ p = q ∨ Ψ .cI p q = 1 ∧ q < p := by
 simp only [p_cI]
 by_cases h1 : p < q
 ·rw [if_pos h1]; exact .inl ⟨rfl, h1⟩
 ·by_cases h2 : q < p
  ·rw [if_neg h1, if_pos h2]; exact .inr (.inr ⟨rfl, h2⟩)
  ·rw [if_neg h1, if_neg h2]; exact .inr (.inl ⟨rfl, Rat.le_antisymm (Rat.not_lt.1 h2) (Rat.not_lt.1 h1)⟩)
theorem cI_sign_ne {p q : Rat} (h : Ψ .sI p ≠ Ψ .sI q) : Ψ .cI p q = if Ψ .sI p < Ψ .sI q then -1 else 1 := by
 have key : Ψ .sI p < Ψ .sI q ↔ p < q := by
  rcases sI_vals p with ⟨e1, h1⟩ | ⟨e1, h1⟩ | ⟨e1, h1⟩ <;> rcases sI_vals q with ⟨e2, h2⟩ | ⟨e2, h2⟩ | ⟨e2, h2⟩ <;> first | exact absurd (e1.trans e2.symm) h | (rw [e1, e2]; constructor <;> intro h3 <;> first | omega | grind)
 simp only [key]
 rcases cI_vals p q with ⟨e, h3⟩ | ⟨e, h3⟩ | ⟨e, h3⟩
 ·rw [e, if_pos h3]
 ·subst h3; exact absurd rfl h
 ·rw [e, if_neg (Rat.not_lt.2 (Rat.le_of_lt h3))]
theorem sI_rv {r : RL} (h1 : nv r.num ≠ 0) (h2 : nv r.den ≠ 0) : Ψ .sI (rv r) = if r.neg then -1 else 1 := sI_mk h1 h2
theorem cI_sign_eq {a b : RL} (h : Ψ .sI (rv a) = Ψ .sI (rv b)) : Ψ .cI (rv a) (rv b) = Ψ .sI (rv a) * Ψ .cmpI (nv a.num * nv b.den) (nv b.num * nv a.den) := by
 by_cases h0 : rv a = 0
 ·have h1 : Ψ .sI (rv b) = 0 := by rw [← h]; exact sI_zero.2 h0
  rw [h, h1, h0, sI_zero.1 h1, Int.zero_mul]
  exact cI_zero.2 rfl
 ·have hb0 : rv b ≠ 0 := fun c => h0 (sI_zero.1 (by rw [h]; exact sI_zero.2 c))
  have ha := mt (@rv_zero_iff a).2 h0
  have hb := mt (@rv_zero_iff b).2 hb0
  have a1 : nv a.num ≠ 0 := fun c => ha (.inl c)
  have a2 : nv a.den ≠ 0 := fun c => ha (.inr c)
  have b1 : nv b.num ≠ 0 := fun c => hb (.inl c)
  have b2 : nv b.den ≠ 0 := fun c => hb (.inr c)
  have e1 := sI_rv a1 a2
  have e2 := sI_rv b1 b2
  rw [e1, e2] at h
  have hs : a.neg = b.neg := by
   revert h
   cases a.neg <;> cases b.neg <;> simp
  have e3 := cI_mk (b := a.neg) (m := nv a.num) (m' := nv b.num) a2 b2
  rw [e1, ← e3]
  show Ψ .cI (mkRat _ _) (mkRat _ _) = _
  rw [hs]
theorem sI_lt (q : Rat) : -1 ≤ Ψ .sI q ∧ Ψ .sI q ≤ 1 := by
 rcases sI_vals q with ⟨e, _⟩ | ⟨e, _⟩ | ⟨e, _⟩ <;> rw [e] <;> decide
theorem cmpI_lt (m n : Nat) : -1 ≤ Ψ .cmpI m n ∧ Ψ .cmpI m n ≤ 1 := by simp only [p_cmpI]; split <;> (try split) <;> omega
end Go.K
end
section
namespace Go.K.S
open Go Go.K
theorem add_good (a b : List Nat) (ha : N a) (hb : N b) (hal : a.length < 549755813888) (hbl : b.length < 549755813888) : Good P F.nat_Add [.d (dN Ψ a), .d (dN Ψ b)] [] (.d (dN Ψ (Ψ .cn (nv a + nv b)))) [] := by
 refine G.nat_Add fun C C2 hC hC2 => ?_
 refine nx ?_
 refine ⟨_, hC _ _ _ (trim_good a ha.lim ha.len), ?_⟩
 refine nx ?_
 refine ⟨_, hC _ _ _ (trim_good b hb.lim hb.len), ?_⟩
 have hna := ha.cn.lim
 have hnb := hb.cn.lim
 have hal := Nat.lt_of_le_of_lt (len_cn_nv ha.lim) hal
 have hbl := Nat.lt_of_le_of_lt (len_cn_nv hb.lim) hbl
 have hva := nv_cn (nv a)
 have hvb := nv_cn (nv b)
 generalize Ψ .cn (nv a) = x at *
 generalize Ψ .cn (nv b) = y at *
 refine nx ?_
 refine BrG.split (fun h => ?_) (fun h => ?_)
 focus
  have hlt : x.length < y.length := by have := h; simp only [wz] at this; omega
  refine nx ?_
  obtain ⟨p, hp⟩ : ∃ p, p = y := ⟨_, rfl⟩
  obtain ⟨q, hq⟩ : ∃ q, q = x := ⟨_, rfl⟩
  subst hp
  subst hq
  have hs : nv p + nv q = nv a + nv b := by omega
  have hlen : q.length ≤ p.length := by omega
  have hpl : p.length < 549755813888 := hbl
  have hpn : lim p := hnb
  have hqn : lim q := hna
  clear hlt h hva hvb hna hnb hal hbl
 rotate_left
 focus
  have hlt : y.length ≤ x.length := by have := h; simp only [wz] at this; omega
  refine nx ?_
  obtain ⟨p, hp⟩ : ∃ p, p = x := ⟨_, rfl⟩
  obtain ⟨q, hq⟩ : ∃ q, q = y := ⟨_, rfl⟩
  subst hp
  subst hq
  have hs : nv p + nv q = nv a + nv b := by omega
  have hlen : q.length ≤ p.length := by omega
  have hpl : p.length < 549755813888 := hal
  have hpn : lim p := hna
  have hqn : lim q := hnb
  clear hlt h hva hvb hna hnb hal hbl
 all_goals
  have hw : Ω .wrap .i64 (Ω .ci p.length + 1) = Ω .ci (p.length + 1) := wrap_succ (by omega)
  rw [hw]
  refine ⟨ci_nonneg _, by simp only [wz]; omega, by simp only [wz]; omega, ?_⟩
  refine LoopG.intro (σ := Nat × List Nat × Nat) [1, 5, 6, 26, 27, 28] [1050]
   (fun s => [.d (dN Ψ q), .own 1050 1, .d (.i .u32 (Ω .ci s.2.2)), .d (dN Ψ p), .d (.i .i64 (Ω .ci p.length)), .d (.i .i64 (Ω .ci s.1))])
   (fun s => [.row true T.uint32 1 (Ψ .lims s.2.1)])
   (fun s => s.1 ≤ p.length ∧ s.2.1.length = s.1 ∧ lim s.2.1 ∧ s.2.2 ≤ 1 ∧ nv s.2.1 + 4294967296 ^ s.1 * s.2.2 = nv (p.take s.1) + nv (q.take s.1))
   (fun s => p.length - s.1) (0, [], 0) [1403] ⟨Nat.zero_le _, rfl, lim_nil, Nat.zero_le _, by simp⟩ ⟨rfl, rfl, rfl⟩ ?_
  rintro ⟨i, z, c⟩ ⟨hi, hzl, hzn, hc, he⟩
  simp only at hi hzl hzn hc he
  refine nx ?_
  refine BrG.split (fun h => ?_) (fun h => ?_)
  ·have hi2 : i < p.length := by have := h; simp only [wz] at this; omega
   obtain ⟨u, hu⟩ : ∃ u, p[i]? = some u := ⟨_, List.getElem?_eq_getElem hi2⟩
   have hul := lim_get hpn hu
   have hud : p.getD i 0 = u := by simp [List.getD, hu]
   refine nx ?_
   refine idx_lims i u rfl hu rfl ?_
   refine nx ?_
   have hvl := getD_lt hqn i
   have fin : ∀ v, v = q.getD i 0 → ((4294967296 ^ (i + 1) = 4294967296 ^ i * 4294967296) ∧ (i + 1 ≤ p.length ∧ (z ++ [(u + v + c) % 4294967296]).length = i + 1 ∧ lim (z ++ [(u + v + c) % 4294967296]) ∧ (u + v + c) / 4294967296 ≤ 1 ∧
     nv (z ++ [(u + v + c) % 4294967296]) + 4294967296 ^ (i + 1) * ((u + v + c) / 4294967296) = nv (p.take (i + 1)) + nv (q.take (i + 1)))) := fun v hv => by
    refine ⟨Nat.pow_succ _ _, hi2, by simp [hzl], lim_append.2 ⟨hzn, by simp [lim_cons, lim_nil]; omega⟩, by omega, ?_⟩
    rw [nv_snoc, hzl, nv_take_succ', nv_take_succ', hud, ← hv, Nat.pow_succ]
    exact add_step he
   refine nx ?_
   refine BrG.split (fun h => ?_) (fun h => ?_)
   ·have hi3 : i < q.length := by have := h; simp only [wz] at this; omega
    obtain ⟨v, hv⟩ : ∃ v, q[i]? = some v := ⟨_, List.getElem?_eq_getElem hi3⟩
    have hvd : q.getD i 0 = v := by simp [List.getD, hv]
    rw [hvd] at hvl
    refine nx ?_
    refine idx_lims i v rfl hv rfl ?_
    refine nx ?_
    refine ⟨_, hC _ _ _ (add32_good u v c hul hvl hc), ?_⟩
    refine nx ?_
    refine ⟨cells_one _ _, (by simp only [wz]; omega), (i + 1, z ++ [(u + v + c) % 4294967296], (u + v + c) / 4294967296), [2403], (fin v hvd.symm).2, by simp only; omega, rfl, ?_, ?_⟩
    ·refine Eq.trans (b := [.d (dN Ψ q), .own 1050 1, .d (.i .u32 (Ω .ci _)), .d (dN Ψ p), .d (.i .i64 (Ω .ci p.length)), .d (.i .i64 _)]) rfl ?_
     rw [wrap_succ (by omega)]
    ·refine Eq.trans (b := [.row true T.uint32 1 _]) rfl ?_
     rw [scat_snoc]
   ·have hi3 : q.length ≤ i := by have := h; simp only [wz] at this; omega
    have hvd : q.getD i 0 = 0 := by simp [List.getD, hi3]
    refine nx ?_
    refine ⟨_, hC _ _ _ (add32_good u 0 c hul (by omega) hc), ?_⟩
    refine nx ?_
    refine ⟨cells_one _ _, (by simp only [wz]; omega), (i + 1, z ++ [(u + 0 + c) % 4294967296], (u + 0 + c) / 4294967296), [2403], (fin 0 hvd.symm).2, by simp only; omega, rfl, ?_, ?_⟩
    ·refine Eq.trans (b := [.d (dN Ψ q), .own 1050 1, .d (.i .u32 (Ω .ci _)), .d (dN Ψ p), .d (.i .i64 (Ω .ci p.length)), .d (.i .i64 _)]) rfl ?_
     rw [wrap_succ (by omega)]
    ·refine Eq.trans (b := [.row true T.uint32 1 _]) rfl ?_
     rw [scat_snoc]
  ·have hi2 : i = p.length := by have := h; simp only [wz] at this; omega
   subst hi2
   rw [List.take_length, List.take_of_length_le hlen, hs] at he
   have hg := trim_good (z ++ [c]) (lim_append.2 ⟨hzn, by simp [lim_cons, lim_nil]; omega⟩) (by simp; omega)
   rw [nv_snoc, hzl, he] at hg
   refine nx ?_
   refine ⟨cells_one _ _, (by simp only [wz]; omega), ?_⟩
   rw [scat_snoc]
   refine nx ?_
   refine ⟨_, hC _ _ _ hg, ?_⟩
   exact nx trivial
end Go.K.S
namespace Go.K.S
open Go Go.K
theorem sub_good_lt (a b : List Nat) (ha : N a) (hb : N b) (hlt : nv a < nv b) : Good P F.nat_Sub [.d (dN Ψ a), .d (dN Ψ b)] [] (.tup [.d (dN Ψ []), .d (.b false)]) [] := by
 refine G.nat_Sub fun C C2 hC hC2 => ?_
 refine nx ?_
 refine ⟨_, hC _ _ _ (cmp_good a b ha hb), ?_⟩
 refine nx ?_
 refine BrG.split (fun h => ?_) (fun h => ?_)
 ·refine nx ?_
  rfl
 ·exact absurd (cmpI_neg.2 hlt) (of_decide_eq_false h)
theorem sub_good (a b : List Nat) (ha : N a) (hb : N b) (hge : nv b ≤ nv a) : Good P F.nat_Sub [.d (dN Ψ a), .d (dN Ψ b)] [] (.tup [.d (dN Ψ (Ψ .cn (nv a - nv b))), .d (.b true)]) [] := by
 refine G.nat_Sub fun C C2 hC hC2 => ?_
 refine nx ?_
 refine ⟨_, hC _ _ _ (cmp_good a b ha hb), ?_⟩
 refine nx ?_
 refine BrG.split (fun h => ?_) (fun h => ?_)
 ·have := cmpI_neg.1 (of_decide_eq_true h); omega
 refine nx ?_
 refine ⟨_, hC _ _ _ (trim_good a ha.lim ha.len), ?_⟩
 refine nx ?_
 refine ⟨_, hC _ _ _ (trim_good b hb.lim hb.len), ?_⟩
 have hpn := ha.cn.lim
 have hqn := hb.cn.lim
 have hpl := ha.cn.len
 have hlen : (Ψ .cn (nv b)).length ≤ (Ψ .cn (nv a)).length := by
  rcases Nat.lt_or_ge (Ψ .cn (nv a)).length (Ψ .cn (nv b)).length with q | q
  ·have := cn_len_lt q; omega
  ·exact q
 have hva := nv_cn (nv a)
 have hvb := nv_cn (nv b)
 generalize Ψ .cn (nv a) = p at *
 generalize Ψ .cn (nv b) = q at *
 refine nx ?_
 refine ⟨ci_nonneg _, by simp only [wz]; omega, by simp only [wz]; omega, ?_⟩
 refine LoopG.intro (σ := Nat × List Nat × Nat) [1, 6, 7, 23, 24, 25] [1050]
  (fun s => [.d (dN Ψ q), .own 1050 1, .d (.i .u32 (Ω .ci s.2.2)), .d (dN Ψ p), .d (.i .i64 (Ω .ci p.length)), .d (.i .i64 (Ω .ci s.1))])
  (fun s => [.row true T.uint32 1 (Ψ .lims s.2.1)])
  (fun s => s.1 ≤ p.length ∧ s.2.1.length = s.1 ∧ lim s.2.1 ∧ s.2.2 ≤ 1 ∧ nv s.2.1 + nv (q.take s.1) = nv (p.take s.1) + 4294967296 ^ s.1 * s.2.2)
  (fun s => p.length - s.1) (0, [], 0) [1402] ⟨Nat.zero_le _, rfl, lim_nil, Nat.zero_le _, by simp⟩ ⟨rfl, rfl, rfl⟩ ?_
 rintro ⟨i, z, c⟩ ⟨hi, hzl, hzn, hc, he⟩
 simp only at hi hzl hzn hc he
 refine nx ?_
 refine BrG.split (fun h => ?_) (fun h => ?_)
 ·have hi2 : i < p.length := by have := h; simp only [wz] at this; omega
  obtain ⟨u, hu⟩ : ∃ u, p[i]? = some u := ⟨_, List.getElem?_eq_getElem hi2⟩
  have hul := lim_get hpn hu
  have hud : p.getD i 0 = u := by simp [List.getD, hu]
  refine nx ?_
  refine idx_lims i u rfl hu rfl ?_
  refine nx ?_
  have hvl := getD_lt hqn i
  have fin : ∀ v, v = q.getD i 0 → (i + 1 ≤ p.length ∧ (z ++ [(4294967296 + u - v - c) % 4294967296]).length = i + 1 ∧ lim (z ++ [(4294967296 + u - v - c) % 4294967296]) ∧ (if u < v + c then 1 else 0) ≤ 1 ∧
    nv (z ++ [(4294967296 + u - v - c) % 4294967296]) + nv (q.take (i + 1)) = nv (p.take (i + 1)) + 4294967296 ^ (i + 1) * (if u < v + c then 1 else 0)) := fun v hv => by
   refine ⟨hi2, by simp [hzl], lim_append.2 ⟨hzn, by simp [lim_cons, lim_nil]; omega⟩, by split <;> omega, ?_⟩
   rw [nv_snoc, hzl, nv_take_succ', nv_take_succ', hud, ← hv, Nat.pow_succ]
   exact sub_step he (by split <;> omega)
  refine nx ?_
  refine BrG.split (fun h => ?_) (fun h => ?_)
  ·have hi3 : i < q.length := by have := h; simp only [wz] at this; omega
   obtain ⟨v, hv⟩ : ∃ v, q[i]? = some v := ⟨_, List.getElem?_eq_getElem hi3⟩
   have hvd : q.getD i 0 = v := by simp [List.getD, hv]
   rw [hvd] at hvl
   refine nx ?_
   refine idx_lims i v rfl hv rfl ?_
   refine nx ?_
   refine ⟨_, hC _ _ _ (sub32_good u v c hul hvl hc), ?_⟩
   have hf := fin v hvd.symm
   generalize (if u < v + c then 1 else 0) = c' at *
   refine nx ?_
   refine ⟨cells_one _ _, (by simp only [wz]; omega), (i + 1, z ++ [(4294967296 + u - v - c) % 4294967296], c'), [2403], hf, by simp only; omega, rfl, ?_, ?_⟩
   ·refine Eq.trans (b := [.d (dN Ψ q), .own 1050 1, .d (.i .u32 (Ω .ci _)), .d (dN Ψ p), .d (.i .i64 (Ω .ci p.length)), .d (.i .i64 _)]) rfl ?_
    rw [wrap_succ (by omega)]
   ·refine Eq.trans (b := [.row true T.uint32 1 _]) rfl ?_
    rw [scat_snoc]
  ·have hi3 : q.length ≤ i := by have := h; simp only [wz] at this; omega
   have hvd : q.getD i 0 = 0 := by simp [List.getD, hi3]
   refine nx ?_
   refine ⟨_, hC _ _ _ (sub32_good u 0 c hul (by omega) hc), ?_⟩
   have hf := fin 0 hvd.symm
   generalize (if u < 0 + c then 1 else 0) = c' at *
   refine nx ?_
   refine ⟨cells_one _ _, (by simp only [wz]; omega), (i + 1, z ++ [(4294967296 + u - 0 - c) % 4294967296], c'), [2403], hf, by simp only; omega, rfl, ?_, ?_⟩
   ·refine Eq.trans (b := [.d (dN Ψ q), .own 1050 1, .d (.i .u32 (Ω .ci _)), .d (dN Ψ p), .d (.i .i64 (Ω .ci p.length)), .d (.i .i64 _)]) rfl ?_
    rw [wrap_succ (by omega)]
   ·refine Eq.trans (b := [.row true T.uint32 1 _]) rfl ?_
    rw [scat_snoc]
 ·have hi2 : i = p.length := by have := h; simp only [wz] at this; omega
  subst hi2
  rw [List.take_length, List.take_of_length_le hlen] at he
  have hzb := nv_lt hzn
  rw [hzl] at hzb
  have hc0 : c = 0 := by
   rcases Nat.lt_or_ge 0 c with q | q
   ·have : c = 1 := by omega
    subst this
    omega
   ·omega
  subst hc0
  have hg := trim_good z hzn (by omega)
  rw [show nv z = nv a - nv b by omega] at hg
  refine nx ?_
  refine ⟨_, hC _ _ _ hg, ?_⟩
  exact nx trivial
end Go.K.S
end
section
namespace Go.K.S
open Go Go.K
theorem whole_good (r : RL) {k : Nat} (h : Rn k r) (hk : k < 549755813888) : Good P F.rat_whole [.d (.agg (dR Ψ r))] [] (.d (.agg (dR Ψ (wh r)))) [] := by
 refine G.rat_whole fun C C2 hC hC2 => ?_
 have g := bits_good r.den (h.N2 (by omega))
 have hz : bl (nv r.den) = 0 → wh r = ⟨false, [], [1]⟩ := fun q => wh_zero (bl_eq_zero.1 q)
 have hnz : bl (nv r.den) ≠ 0 → wh r = r := fun q => wh_ne fun c => q (bl_eq_zero.2 c)
 obtain ⟨R, hR⟩ : ∃ R, R = wh r := ⟨_, rfl⟩
 rw [← hR] at hz hnz ⊢
 generalize bl (nv r.den) = n at *
 obtain ⟨b, x, y⟩ := r
 simp only at g
 refine nx ?_
 refine ⟨_, hC _ _ _ g, ?_⟩
 refine nx ?_
 refine BrG.split (fun h => ?_) (fun h => ?_)
 ·have h0 : n = 0 := by have := h; simp only [wz] at this ⊢; omega
  have := hz h0
  subst this
  refine nx ?_
  refine ⟨_, hC _ _ _ one_good, ?_⟩
  refine nx ?_
  rfl
 ·have h0 : n ≠ 0 := by have := h; simp only [wz] at this ⊢; omega
  have := hnz h0
  subst this
  exact nx trivial
theorem plus_good (a b : RL) {j k : Nat} (ha : Rn j a) (hb : Rn k b) (hj : 0 < j) (hk : 0 < k) (hj2 : j < 68719476736) (hk2 : k < 68719476736) :
  Good P F.rat_plus [.d (.agg (dR Ψ a)), .d (.agg (dR Ψ b))] [] (.d (.agg (dR Ψ (Ψ .cr (rv a + rv b))))) [] := by
 refine G.rat_plus fun C C2 hC hC2 => ?_
 have gw1 := whole_good a ha (by omega)
 have gw2 := whole_good b hb (by omega)
 rw [← rv_wh a, ← rv_wh b]
 have ha' := Rn_wh ha hj
 have hb' := Rn_wh hb hk
 have hda := wh_den a
 have hdb := wh_den b
 generalize wh a = p at *
 generalize wh b = q at *
 have hadd := rv_add hda hdb
 have p1 := ha'.N1 (by omega)
 have p2 := ha'.N2 (by omega)
 have q1 := hb'.N1 (by omega)
 have q2 := hb'.N2 (by omega)
 have lp1 := ha'.kn
 have lp2 := ha'.kd
 have lq1 := hb'.kn
 have lq2 := hb'.kd
 have m1 := mul_good p.num q.den p1 q2 (by omega) (by omega)
 have m2 := mul_good q.num p.den q1 p2 (by omega) (by omega)
 have m3 := mul_good p.den q.den p2 q2 (by omega) (by omega)
 have b1 : nv p.num * nv q.den < 4294967296 ^ (j + k) := lt_mul_pow (nv_lt_pow p1.lim lp1) (nv_lt_pow q2.lim lq2)
 have b2 : nv q.num * nv p.den < 4294967296 ^ (j + k) := by rw [Nat.add_comm]; exact lt_mul_pow (nv_lt_pow q1.lim lq1) (nv_lt_pow p2.lim lp2)
 have b3 : nv p.den * nv q.den < 4294967296 ^ (j + k) := lt_mul_pow (nv_lt_pow p2.lim lp2) (nv_lt_pow q2.lim lq2)
 obtain ⟨s, n1, d1⟩ := p
 obtain ⟨t, n2, d2⟩ := q
 simp only at *
 generalize nv n1 * nv d2 = x at *
 generalize nv n2 * nv d1 = y at *
 generalize nv d1 * nv d2 = z at *
 generalize rv _ + rv _ = v at *
 obtain ⟨R, hR⟩ : ∃ R, R = Ψ .cr v := ⟨_, rfl⟩
 rw [← hR]
 rw [hadd] at hR
 have hNx := N_cn b1 (by omega)
 have ny := N_cn b2 (by omega)
 have nz := N_cn b3 (by omega)
 have lx := len_cn.2 b1
 have ly := len_cn.2 b2
 have lz := len_cn.2 b3
 have gadd := add_good (Ψ .cn x) (Ψ .cn y) hNx ny (by omega) (by omega)
 rw [nv_cn, nv_cn] at gadd
 have badd : x + y < 4294967296 ^ (j + k + 1) := by rw [Nat.pow_succ]; omega
 have g1 := made_good s (Ψ .cn (x + y)) (Ψ .cn z) (N_cn badd (by omega)) nz (by have := len_cn.2 badd; omega) (by omega)
 rw [nv_cn, nv_cn] at g1
 have gsub : y ≤ x → _ := fun h => sub_good (Ψ .cn x) (Ψ .cn y) hNx ny (by rw [nv_cn, nv_cn]; exact h)
 have gsub2 : x < y → _ := fun h => sub_good_lt (Ψ .cn x) (Ψ .cn y) hNx ny (by rw [nv_cn, nv_cn]; exact h)
 have gsub3 : x ≤ y → _ := fun h => sub_good (Ψ .cn y) (Ψ .cn x) ny hNx (by rw [nv_cn, nv_cn]; exact h)
 rw [nv_cn, nv_cn] at gsub gsub3
 have bs1 : x - y < 4294967296 ^ (j + k) := by omega
 have bs2 : y - x < 4294967296 ^ (j + k) := by omega
 have g2 := made_good s (Ψ .cn (x - y)) (Ψ .cn z) (N_cn bs1 (by omega)) nz (by have := len_cn.2 bs1; omega) (by omega)
 have g3 := made_good t (Ψ .cn (y - x)) (Ψ .cn z) (N_cn bs2 (by omega)) nz (by have := len_cn.2 bs2; omega) (by omega)
 rw [nv_cn, nv_cn] at g2 g3
 have e1 : s = t → mkRat (sg s (x + y)) z = mkRat (sg s x + sg t y) z := fun h => by subst h; rw [sg_add_same]
 have e2 : s ≠ t → y ≤ x → mkRat (sg s (x - y)) z = mkRat (sg s x + sg t y) z := fun h h2 => by rw [sg_add_diff h h2]
 have e3 : s ≠ t → x ≤ y → mkRat (sg t (y - x)) z = mkRat (sg s x + sg t y) z := fun h h2 => by rw [Int.add_comm, sg_add_diff (fun c => h c.symm) h2]
 refine nx ?_
 refine ⟨_, hC _ _ _ gw1, ?_⟩
 refine nx ?_
 refine ⟨_, hC _ _ _ gw2, ?_⟩
 refine nx ?_
 refine ⟨_, hC _ _ _ m1, ?_⟩
 refine nx ?_
 refine ⟨_, hC _ _ _ m2, ?_⟩
 refine nx ?_
 refine ⟨_, hC _ _ _ m3, ?_⟩
 refine nx ?_
 refine BrG.split (fun h => ?_) (fun h => ?_)
 ·have hst : s = t := by simpa using h
  rw [e1 hst, ← hR] at g1
  refine nx ?_
  refine ⟨_, hC _ _ _ gadd, ?_⟩
  refine nx ?_
  refine ⟨_, hC _ _ _ g1, ?_⟩
  exact nx trivial
 ·have hst : s ≠ t := by simpa using h
  refine nx ?_
  rcases Nat.lt_or_ge x y with c | c
  ·rw [e3 hst (Nat.le_of_lt c), ← hR] at g3
   refine ⟨_, hC _ _ _ (gsub2 c), ?_⟩
   refine nx ?_
   refine ⟨_, hC _ _ _ (gsub3 (Nat.le_of_lt c)), ?_⟩
   refine nx ?_
   refine ⟨_, hC _ _ _ g3, ?_⟩
   exact nx trivial
  ·rw [e2 hst c, ← hR] at g2
   refine ⟨_, hC _ _ _ (gsub c), ?_⟩
   refine nx ?_
   refine ⟨_, hC _ _ _ g2, ?_⟩
   exact nx trivial
end Go.K.S
end
