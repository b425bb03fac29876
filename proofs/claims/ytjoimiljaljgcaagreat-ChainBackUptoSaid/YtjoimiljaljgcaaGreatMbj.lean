/-
  Parts of the proof, joined by a program of this work: KRoot2, KUnit, KScene2, KScene4.
-/
import Derived.Test.YtjoimiljaljgcaaGreatMbi
set_option linter.unusedSimpArgs false
set_option linter.unusedVariables false
set_option maxHeartbeats 8000000
set_option maxRecDepth 20000
section
namespace Go.K
open Go
theorem bl_top {z : List Nat} {v : Nat} (hz : lim z) (hc : cano z) (hg : z[z.length - 1]? = some v) : bl (nv z) = 32 * (z.length - 1) + bl v := by
 have h0 : 0 < z.length := by
  rcases Nat.eq_zero_or_pos z.length with h | h
  ·rw [List.eq_nil_of_length_eq_zero h] at hg; cases hg
  ·exact h
 have hv0 : v ≠ 0 := hc v (by rw [List.getLast?_eq_getElem?]; exact hg)
 have hs := nv_take_succ hg
 rw [show z.length - 1 + 1 = z.length by omega, List.take_length] at hs
 have h1 : nv (z.take (z.length - 1)) < 4294967296 ^ (z.length - 1) := by
  have := nv_lt (lim_take hz (z.length - 1))
  rwa [List.length_take, Nat.min_eq_left (by omega)] at this
 have hM : 4294967296 ^ (z.length - 1) = 2 ^ (32 * (z.length - 1)) := by rw [Nat.pow_mul]
 rw [hM] at hs h1
 have hdiv : nv z / 2 ^ (32 * (z.length - 1)) = v := by
  rw [hs, Nat.add_mul_div_left _ _ (Nat.pow_pos (by omega)), Nat.div_eq_of_lt h1, Nat.zero_add]
 have hge : 2 ^ (32 * (z.length - 1)) ≤ nv z := by
  rw [hs]
  have := Nat.mul_le_mul_left (2 ^ (32 * (z.length - 1))) (show 1 ≤ v by omega)
  omega
 rw [bl_div hge, hdiv]
theorem bl_half {x : Nat} (h : 0 < x) : bl x = 1 + bl (x / 2) := by
 rcases Nat.lt_or_ge x 2 with q | q
 ·obtain rfl : x = 1 := by omega
  rfl
 ·exact bl_div (k := 1) q
theorem nv_bit (k v : Nat) : nv (List.replicate k 0 ++ [v]) = v * 4294967296 ^ k := by
 induction k with
 | zero => simp
 | succ k ih =>
  rw [List.replicate_succ, List.cons_append, nv, ih, Nat.pow_succ]
  grind
theorem pow_bit (i : Nat) : 2 ^ (i % 32) * 4294967296 ^ (i / 32) = 2 ^ i := by
 rw [show 4294967296 = 2 ^ 32 from rfl, ← Nat.pow_mul, ← Nat.pow_add]
 congr 1; omega
def unitR (v : V3) : V3 × Rat := (unitS v).getD (v0, 0)
theorem rsq_n {k : Nat} {q l : Rat} (h : Qn k q) (hl : rsq q = some l) (hk : 0 < k) : Qn k l := by
 unfold rsq at hl
 split at hl
 ·cases hl
 ·split at hl
  ·cases hl
   have a1 : sq q.num.natAbs ≤ q.num.natAbs := by
    have := sq_le q.num.natAbs
    generalize sq q.num.natAbs = s at *
    have := Nat.le_mul_self s
    omega
   have a2 : sq q.den ≤ q.den := by
    have := sq_le q.den
    generalize sq q.den = s at *
    have := Nat.le_mul_self s
    omega
   exact Qn_mk (by have := h.n; simp only [Int.natAbs_natCast]; omega) (by have := h.d; omega) hk
  ·cases hl
theorem unit_n {k : Nat} {v : V3} (h : Pn k v) (hk : 0 < k) : Pn (7 * k + 3) (unitR v).1 ∧ Qn (6 * k + 2) (unitR v).2 := by
 unfold unitR unitS
 have hd := (Qn_dot h h (by omega)).mono (show _ ≤ 6 * k + 2 by omega)
 cases hr : rsq (vdot v v) with
 | none => exact ⟨Pn_v0 (by omega), Qn_zero (by omega)⟩
 | some l =>
  have hl := rsq_n hd hr (by omega)
  simp only
  by_cases h0 : l = 0
  ·rw [if_pos h0]; exact ⟨Pn_v0 (by omega), Qn_zero (by omega)⟩
  ·rw [if_neg h0]
   exact ⟨(Pn_mul (Qn_div Qn_one' hl (by omega)) h (by omega)).mono (by omega), hl⟩
end Go.K
namespace Go.K.S
open Go Go.K
theorem bits1_good (l : List Nat) (h : N l) : Good P F.penumbraref01_Bits [.d (dN Ψ l)] [] (.d (.i .i64 (Ω .ci (bl (nv l))))) [] := by
 refine G.penumbraref01_Bits fun C C2 hC hC2 => ?_
 have hn := h.cn
 refine nx ?_
 refine ⟨_, hC _ _ _ (norm1_good l h), ?_⟩
 have hc := cano_cn (nv l)
 have hv := nv_cn (nv l)
 generalize Ψ .cn (nv l) = z at *
 have hz := hn.len
 refine nx ?_
 refine BrG.split (fun h => ?_) (fun h => ?_)
 ·have h0 : z.length = 0 := by simpa [wz] using h
  have : z = [] := List.eq_nil_of_length_eq_zero h0
  subst this
  refine nx ?_
  rw [← hv]
  rfl
 ·have h0 : z.length ≠ 0 := by simpa [wz] using h
  obtain ⟨v, hg⟩ : ∃ v, z[z.length - 1]? = some v := ⟨_, List.getElem?_eq_getElem (by omega)⟩
  have ht := bl_top hn.lim hc hg
  rw [hv] at ht
  have hlt := lim_get hn.lim hg
  have hv32 : bl v ≤ 32 := bl_le.2 hlt
  generalize bl (nv l) = T at *
  refine nx ?_
  refine idx_lims (z.length - 1) v (wrap_pred (by omega) (by omega)) hg rfl ?_
  refine nx ?_
  rw [wrap_pred (by omega) (by omega), show (32 : Int) = Ω .ci 32 from rfl, ci_mul, wrap_ci (by omega)]
  refine LoopG.intro (σ := Nat × Nat) [4, 5] [] (fun s => [.d (.i .i64 (Ω .ci s.1)), .d (.i .u32 (Ω .ci s.2))]) (fun _ => [])
   (fun s => s.1 + bl s.2 = T ∧ s.2 < 4294967296) (fun s => s.2) (32 * (z.length - 1), v) [] ⟨by simp only; omega, hlt⟩ ⟨rfl, rfl, rfl⟩ ?_
  rintro ⟨n, x⟩ ⟨h1, h2⟩
  simp only at h1 h2
  refine nx ?_
  refine BrG.split (fun h => ?_) (fun h => ?_)
  ·have hx : 0 < x := by have := h; simp only [wz] at this; omega
   have hh := bl_half hx
   refine nx ?_
   refine ⟨(n + 1, x / 2), [], ⟨by simp only; omega, by simp only; omega⟩, by simp only; omega, rfl, ?_, rfl⟩
   refine Eq.trans (b := [.d (.i .i64 _), .d (.i .u32 _)]) rfl ?_
   rw [wrap_succ (by omega), show (2 : Int) = Ω .ci 2 from rfl, tdiv_ci, wrapu32_ci, Nat.mod_eq_of_lt (by omega)]
  ·have hx : x = 0 := by have := h; simp only [wz] at this; omega
   subst hx
   have : n = T := by rw [bl_zero] at h1; omega
   subst this
   exact nx trivial
theorem sqrt2_good (a : List Nat) (ha : N a) (hl : a.length ≤ 4096) :
  Good P F.penumbraref02_Sqrt [.d (dN Ψ a)] [] (.tup [.d (dN Ψ (Ψ .cn (sq (nv a)))), .d (.b (decide (sq (nv a) * sq (nv a) = nv a)))]) [] := by
 refine G.penumbraref02_Sqrt fun C C2 hC hC2 => ?_
 obtain ⟨m, hm, hm2⟩ : ∃ m, a.length ≤ m ∧ m ≤ 4096 := ⟨4096, hl, Nat.le_refl _⟩
 have hp2 : ∀ k, (4294967296 : Nat) ^ k = 2 ^ (32 * k) := fun k => by rw [show (4294967296 : Nat) = 2 ^ 32 from rfl, ← Nat.pow_mul]
 have hM : nv a < 4294967296 ^ m := Nat.lt_of_lt_of_le (nv_lt ha.lim) (B_mono hm)
 have g1 := bits1_good a ha
 have hbm : bl (nv a) ≤ 32 * m := bl_le.2 (by rw [← hp2]; exact hM)
 have hst := bitw_start (bl_lt (nv a))
 have gc := fun x : Nat => fun h : x < 4294967296 ^ (2 * m + 10) => cmp1_good (Ψ .cn x) a ⟨lim_cn _, by have := len_cn.2 h; omega⟩ ha
 generalize hn : nv a = n at *
 refine nx ?_
 refine ⟨_, hC _ _ _ g1, ?_⟩
 refine nx ?_
 rw [show Ω .wrap .i64 ((Ω .wrap .i64 (Ω .ci (bl n) + 1)).tdiv 2) = Ω .ci ((bl n + 1) / 2) by
  rw [wrap_succ (by omega), show (2 : Int) = Ω .ci 2 from rfl, w_ci, w_ci, ← Int.ofNat_tdiv, ← w_ci, wrap_ci (by omega)]]
 have hi0 : (bl n + 1) / 2 ≤ 16 * m + 1 := by clear hM gc; omega
 refine LoopG.intro2 (σ := Option Bool × Nat × Nat) [0, 4, 5] (fun s => match s.1 with | some _ => [1050] | none => [])
  (fun s => [.d (dN Ψ a), match s.1 with | some _ => .own 1050 1 | none => .d (dN Ψ (Ψ .cn s.2.1)), .d (.i .i64 (Ω .wrap .i64 (Ω .ci s.2.2 - 1)))]) (fun s => match s.1 with | some b => [.row b T.uint32 1 []] | none => [])
  (fun s => (s.1 ≠ none → s.2.1 = 0) ∧ Bitw n s.2.1 s.2.2 ∧ s.2.2 ≤ 16 * m + 2) (fun s => s.2.2) (some true, 0, (bl n + 1) / 2 + 1) [1100] ⟨fun _ => rfl, hst, by simp only; omega⟩ ⟨rfl, ?_, rfl⟩ ?_
 ·refine Eq.trans (b := [.d (dN Ψ a), .own 1050 1, .d (.i .i64 _)]) rfl ?_
  simp only [wrap_pred (n := (bl n + 1) / 2 + 1) (by omega) (by omega)]
  rfl
 rintro ⟨fr, x, i⟩ ⟨hfr, hw, hi⟩
 simp only at hfr hw hi
 have hxn : x * x ≤ n := hw.1
 have hxb : x < 4294967296 ^ (m + 1) := by
  rcases Nat.lt_or_ge x (4294967296 ^ (m + 1)) with q | q
  ·exact q
  ·have h1 := Nat.mul_le_mul q q
   have h2 : 4294967296 ^ m ≤ 4294967296 ^ (m + 1) * 4294967296 ^ (m + 1) := by rw [← Nat.pow_add]; exact B_mono (by omega)
   have h3 := Nat.lt_of_lt_of_le hM h2
   have h4 := Nat.lt_of_lt_of_le h3 h1
   exact absurd (Nat.lt_of_lt_of_le h4 hxn) (Nat.lt_irrefl _)
 have hNx : N (Ψ .cn x) ∧ (Ψ .cn x).length ≤ m + 1 := ⟨⟨lim_cn _, by have := len_cn.2 hxb; omega⟩, len_cn.2 hxb⟩
 rcases Nat.eq_zero_or_pos i with hi0 | hi0
 ·subst hi0
  rw [bitw_end hw]
  have gm := mul1_good (Ψ .cn x) (Ψ .cn x) hNx.1 hNx.1 (by omega) (by omega)
  rw [nv_cn] at gm
  have hxx : x * x < 4294967296 ^ (2 * m + 10) := Nat.lt_of_lt_of_le (lt_mul_pow hxb hxb) (B_mono (by omega))
  have gk := gc _ hxx
  rw [nv_cn] at gk
  have hc0 := @cmpI_zero (x * x) n
  have hd : decide (x * x = n) = Ω .eq (Ψ .cmpI (x * x) n) 0 := by
   rw [w_eq]
   by_cases c : x * x = n
   ·rw [decide_eq_true c, hc0.2 c]; rfl
   ·rw [decide_eq_false c]; exact (beq_eq_false_iff_ne.2 (mt hc0.1 c)).symm
  rw [hd]
  clear hd
  generalize Ψ .cmpI (x * x) n = c at *
  have hq : Ω .le 0 (Ω .wrap .i64 (Ω .ci 0 - 1)) = false := by
   rw [wrap64 (by simp only [wz]; omega) (by simp only [wz]; omega)]; simp only [wz]; omega
  generalize Ω .wrap .i64 (Ω .ci 0 - 1) = w at *
  cases fr with
  | none =>
   cases hcc : Ω .eq c 0
   all_goals exact rq trivial
  | some b =>
   have hx0 := hfr (fun h => nomatch h)
   subst hx0
   rw [Nat.mul_zero] at gm gk
   rw [cn_zero] at gm gk ⊢
   cases hcc : Ω .eq c 0
   all_goals
    refine rq ?_
    rfl
 obtain ⟨j, rfl⟩ : ∃ j, i = j + 1 := ⟨i - 1, by omega⟩
 have hk1 : Ω .wrap .i64 (Ω .ci (j + 1) - 1) = Ω .ci j := wrap_pred (by omega) (by omega)
 have hlb : lim (List.replicate (j / 32) 0 ++ [2 ^ (j % 32)]) := by
  intro v hv
  rcases List.mem_append.1 hv with h | h
  ·rw [List.eq_of_mem_replicate h]; omega
  ·rw [List.mem_singleton.1 h]
   exact Nat.lt_of_lt_of_le (Nat.pow_lt_pow_right (by omega) (Nat.mod_lt _ (by omega))) (Nat.le_of_eq (show (2 : Nat) ^ 32 = 4294967296 from rfl))
 have hvb : nv (List.replicate (j / 32) 0 ++ [2 ^ (j % 32)]) = 2 ^ j := by rw [nv_bit, pow_bit]
 have hlen : (List.replicate (j / 32) 0 ++ [2 ^ (j % 32)]).length = j / 32 + 1 := by simp
 have hjl : j / 32 + 1 ≤ m + 2 := by clear hM hxn hxb hw gc; omega
 have ga := add1_good (Ψ .cn x) (List.replicate (j / 32) 0 ++ [2 ^ (j % 32)]) hNx.1 ⟨hlb, by omega⟩ (by omega) (by omega)
 rw [nv_cn, hvb] at ga
 have hjb : 2 ^ j < 4294967296 ^ (m + 2) := by rw [← hvb]; exact Nat.lt_of_lt_of_le (nv_lt hlb) (B_mono (by omega))
 have hyb : x + 2 ^ j < 4294967296 ^ (m + 3) := by
  have h2 := Nat.pow_lt_pow_right (show 1 < 4294967296 by omega) (show m + 1 < m + 2 by omega)
  have h3 : 4294967296 ^ (m + 3) = 4294967296 ^ (m + 2) * 4294967296 := Nat.pow_succ _ _
  omega
 have hNy : N (Ψ .cn (x + 2 ^ j)) ∧ (Ψ .cn (x + 2 ^ j)).length ≤ m + 3 := ⟨⟨lim_cn _, by have := len_cn.2 hyb; omega⟩, len_cn.2 hyb⟩
 have gm := mul1_good (Ψ .cn (x + 2 ^ j)) (Ψ .cn (x + 2 ^ j)) hNy.1 hNy.1 (by omega) (by omega)
 rw [nv_cn] at gm
 have hyy : (x + 2 ^ j) * (x + 2 ^ j) < 4294967296 ^ (2 * m + 10) := Nat.lt_of_lt_of_le (lt_mul_pow hyb hyb) (B_mono (by omega))
 have gk := gc _ hyy
 rw [nv_cn] at gk
 have hci := @cmpI_pos ((x + 2 ^ j) * (x + 2 ^ j)) n
 have ny := bitw_yes hw
 have nn := bitw_no hw
 clear hyy hyb hjb hxb hM gc
 generalize (x + 2 ^ j) * (x + 2 ^ j) = yy at *
 generalize x + 2 ^ j = y at *
 generalize Ψ .cmpI yy n = c at *
 have hr : j % 32 < 32 := Nat.mod_lt _ (by omega)
 have hsh : Ω .ishl .u32 1 (Ω .wrap .u64 (Ω .tmod (Ω .ci j) 32)) = Ω .ci (2 ^ (j % 32)) := by
  rw [show (32 : Int) = Ω .ci 32 from rfl, tmod_ci, wrapu64_ci, Nat.mod_eq_of_lt (show j % 32 < 18446744073709551616 by omega), show (1 : Int) = Ω .ci 1 from rfl, ishl_ci _ _ _ (by show j % 32 ≤ 32; omega), Nat.one_mul, wrapu32_ci,
   Nat.mod_eq_of_lt (Nat.lt_of_lt_of_le (Nat.pow_lt_pow_right (by omega) hr) (Nat.le_of_eq (show (2 : Nat) ^ 32 = 4294967296 from rfl)))]
 have hs0 : Ω .ile 0 (Ω .wrap .u64 (Ω .tmod (Ω .ci j) 32)) := by
  rw [show (32 : Int) = Ω .ci 32 from rfl, tmod_ci, wrapu64_ci]; exact ci_nonneg _
 have hq : Ω .le 0 (Ω .ci j) = true := by simp only [wz]; omega
 have hq2 : Ω .le c 0 = decide (c ≤ 0) := rfl
 have hc9 : ¬ 0 < c ↔ c ≤ 0 := by omega
 have ht : Ω .wrap .i64 ((Ω .ci j).tdiv 32) = Ω .ci (j / 32) := by rw [show (32 : Int) = Ω .ci 32 from rfl, tdiv_ci, wrap_ci (by omega)]
 have hj9 : j / 32 ≤ 4100 := by omega
 generalize 2 ^ (j % 32) = v at *
 cases fr with
 | none =>
  refine nx ?_
  simp only [hk1]
  refine BrG.yes hq ?_
  refine nx ?_
  rw [ht, hsh]
  refine ⟨ci_nonneg _, Int.le_refl _, by simp only [wz]; omega, by simp only [wz]; omega, hs0, ?_⟩
  rw [tn_ci, srep_lims]
  refine ⟨fun u hu => by simp only [List.mem_cons, List.not_mem_nil, or_false] at hu; rcases hu with rfl; rfl, (by simp only [wz, List.length_replicate]; omega), ?_⟩
  rw [lims_nil, lims_cons, scat_lims]
  refine ⟨_, hC _ _ _ ga, ?_⟩
  refine nx ?_
  refine ⟨_, hC _ _ _ gm, ?_⟩
  refine nx ?_
  refine ⟨_, hC _ _ _ gk, ?_⟩
  refine nx ?_
  refine BrG.split (fun h => ?_) (fun h => ?_)
  ·have h1 : c ≤ 0 := by have := h; simp only [wz] at this; omega
   have h2 : yy ≤ n := by have := mt hci.2; omega
   refine nx ?_
   exact ⟨(none, y, j), [], ⟨fun h => absurd rfl h, ny h2, by simp only; omega⟩, by simp only; omega, rfl, rfl, rfl⟩
  ·have h1 : 0 < c := by have := h; simp only [wz] at this; omega
   have h2 : ¬ yy ≤ n := by have := hci.1 h1; omega
   refine nx ?_
   exact ⟨(none, x, j), [], ⟨fun h => absurd rfl h, nn h2, by simp only; omega⟩, by simp only; omega, rfl, rfl, rfl⟩
 | some b =>
  have hx0 := hfr (fun h => nomatch h)
  subst hx0
  rw [cn_zero] at ga
  refine nx ?_
  simp only [hk1]
  refine BrG.yes hq ?_
  refine nx ?_
  rw [ht, hsh]
  refine ⟨ci_nonneg _, Int.le_refl _, by simp only [wz]; omega, by simp only [wz]; omega, hs0, ?_⟩
  rw [tn_ci, srep_lims]
  refine ⟨fun u hu => by simp only [List.mem_cons, List.not_mem_nil, or_false] at hu; rcases hu with rfl; rfl, (by simp only [wz, List.length_replicate]; omega), ?_⟩
  rw [lims_nil, lims_cons, scat_lims]
  refine ⟨_, hC _ _ _ ga, ?_⟩
  refine nx ?_
  refine ⟨_, hC _ _ _ gm, ?_⟩
  refine nx ?_
  refine ⟨_, hC _ _ _ gk, ?_⟩
  refine nx ?_
  refine BrG.split (fun h => ?_) (fun h => ?_)
  ·have h1 : c ≤ 0 := by have := h; simp only [wz] at this; omega
   have h2 : yy ≤ n := by have := mt hci.2; omega
   refine nx ?_
   exact ⟨(none, y, j), [], ⟨fun h => absurd rfl h, ny h2, by simp only; omega⟩, by simp only; omega, rfl, rfl, rfl⟩
  ·have h1 : 0 < c := by have := h; simp only [wz] at this; omega
   have h2 : ¬ yy ≤ n := by have := hci.1 h1; omega
   refine nx ?_
   exact ⟨(some false, 0, j), [1050], ⟨fun _ => rfl, nn h2, by simp only; omega⟩, by simp only; omega, rfl, rfl, rfl⟩
end Go.K.S
end
section
namespace Go.K
open Go
theorem sqrt_parts (q : Rat) : (rsq q).getD 0 = if decide (sq q.num.natAbs * sq q.num.natAbs = q.num.natAbs) && (decide (sq q.den * sq q.den = q.den) && !decide (q.num < 0)) then mkRat (sg false (sq q.num.natAbs)) (sq q.den) else 0 := by
 unfold rsq
 have hn : q < 0 ↔ q.num < 0 := by
  rw [← Rat.not_le, ← Rat.num_nonneg]; omega
 by_cases h0 : q.num < 0
 ·rw [if_pos (hn.2 h0), decide_eq_true h0]; simp
 ·rw [if_neg (mt hn.1 h0), decide_eq_false h0]
  by_cases h1 : sq q.num.natAbs * sq q.num.natAbs = q.num.natAbs <;> by_cases h2 : sq q.den * sq q.den = q.den <;> simp [h1, h2, sg]
theorem sqrt_is (q : Rat) : (rsq q).isSome = (decide (sq q.num.natAbs * sq q.num.natAbs = q.num.natAbs) && (decide (sq q.den * sq q.den = q.den) && !decide (q.num < 0))) := by
 unfold rsq
 have hn : q < 0 ↔ q.num < 0 := by
  rw [← Rat.not_le, ← Rat.num_nonneg]; omega
 by_cases h0 : q.num < 0
 ·rw [if_pos (hn.2 h0), decide_eq_true h0]; simp
 ·rw [if_neg (mt hn.1 h0), decide_eq_false h0]
  by_cases h1 : sq q.num.natAbs * sq q.num.natAbs = q.num.natAbs <;> by_cases h2 : sq q.den * sq q.den = q.den <;> simp [h1, h2]
theorem unitR_eq (v : V3) : unitR v = if (rsq (vdot v v)).isSome && decide ((rsq (vdot v v)).getD 0 ≠ 0) then (vmul (1 / (rsq (vdot v v)).getD 0) v, (rsq (vdot v v)).getD 0) else (v0, 0) := by
 unfold unitR unitS
 cases rsq (vdot v v) with
 | none => rfl
 | some l =>
  simp only [Option.isSome_some, Option.getD_some, Bool.true_and]
  by_cases h : l = 0
  ·rw [if_pos h, if_neg (by simp [h])]; rfl
  ·rw [if_neg h, if_pos (by simp [h])]; rfl
theorem unitS_is (v : V3) : (unitS v).isSome = ((rsq (vdot v v)).isSome && decide ((rsq (vdot v v)).getD 0 ≠ 0)) := by
 unfold unitS
 cases rsq (vdot v v) with
 | none => rfl
 | some l =>
  simp only [Option.isSome_some, Option.getD_some, Bool.true_and]
  by_cases h : l = 0
  ·rw [if_pos h, decide_eq_false (by simp [h])]; rfl
  ·rw [if_neg h, decide_eq_true h]; rfl
theorem Pn_norm {k : Nat} {t : T3} (h : Pn k t.a ∧ Pn k t.b ∧ Pn k t.c) (hk : 0 < k) : Pn (8 * k + 5) (normS t) :=
 (Pn_cross (Pn_sub h.2.1 h.1) (Pn_sub h.2.2 h.1) (by omega)).mono (by omega)
theorem T3n {k : Nat} {t : TL} (h : Tn k t) (hk : 0 < k) : Pn k (tv t).a ∧ Pn k (tv t).b ∧ Pn k (tv t).c := ⟨Pn_vv h.a hk, Pn_vv h.b hk, Pn_vv h.c hk⟩
def pointS (t : T3) (u v : Rat) : V3 := vadd t.a (vadd (vmul u (vsub t.b t.a)) (vmul v (vsub t.c t.a)))
end Go.K
namespace Go.K.S
open Go Go.K
theorem rsqrt_good (r : RL) {k : Nat} (h : Rn k r) (hk0 : 0 < k) (hk : k ≤ 4096) :
  Good P F.rat_Sqrt [.d (.agg (dR Ψ r))] [] (.tup [.d (.agg (dR Ψ (Ψ .cr ((rsq (rv r)).getD 0)))), .d (.b (rsq (rv r)).isSome)]) [] := by
 refine G.rat_Sqrt fun C C2 hC hC2 => ?_
 have g1 := read_good r h (by omega)
 have qn := Qn_rv h hk0
 rw [sqrt_parts, sqrt_is]
 generalize rv r = q at *
 have l1 := len_cn.2 qn.n
 have l2 := len_cn.2 qn.d
 have g2 := root_good (Ψ .cn q.num.natAbs) ⟨lim_cn _, by omega⟩ (by omega)
 have g3 := root_good (Ψ .cn q.den) ⟨lim_cn _, by omega⟩ (by omega)
 rw [nv_cn] at g2 g3
 have a1 := sq_le q.num.natAbs
 have a2 := sq_le q.den
 have b1 : sq q.num.natAbs < 4294967296 ^ k := Nat.lt_of_le_of_lt (Nat.le_trans (Nat.le_mul_self _) a1) qn.n
 have b2 : sq q.den < 4294967296 ^ k := Nat.lt_of_le_of_lt (Nat.le_trans (Nat.le_mul_self _) a2) qn.d
 have c1 := len_cn.2 b1
 have c2 := len_cn.2 b2
 have g4 := made_good false (Ψ .cn (sq q.num.natAbs)) (Ψ .cn (sq q.den)) ⟨lim_cn _, by omega⟩ ⟨lim_cn _, by omega⟩ (by omega) (by omega)
 rw [nv_cn, nv_cn] at g4
 have ec : Ψ .cr q = ⟨decide (q.num < 0), Ψ .cn q.num.natAbs, Ψ .cn q.den⟩ := rfl
 rw [ec] at g1
 have e0 := cr_zero
 clear a1 a2 b1 b2 c1 c2 l1 l2 qn ec
 generalize decide (sq q.num.natAbs * sq q.num.natAbs = q.num.natAbs) = t1 at *
 generalize decide (sq q.den * sq q.den = q.den) = t2 at *
 generalize decide (q.num < 0) = t3 at *
 generalize mkRat (sg false (sq q.num.natAbs)) (sq q.den) = w at *
 have g5 := one_good
 cases t1 <;> cases t2 <;> cases t3
 all_goals
  simp only [Bool.and_true, Bool.and_false, Bool.true_and, Bool.false_and, Bool.not_true, Bool.not_false, if_true, Bool.false_eq_true, if_false, e0]
  first | exact rq trivial | (refine rq ?_; rfl)
theorem vunit_good (v : VL) {k : Nat} (h : Vn k v) (hk0 : 0 < k) (hk : k ≤ 600) :
  Good P F.vec_Unit [.d (.agg (dV Ψ v))] [] (.tup [.d (.agg (dV Ψ (Ψ .cV (unitR (vv v)).1))), .d (.agg (dR Ψ (Ψ .cr (unitR (vv v)).2))), .d (.b (unitS (vv v)).isSome)]) [] := by
 refine G.vec_Unit fun C C2 hC hC2 => ?_
 have g1 := vdot_good v v h h hk0 (by omega)
 have qd := (Qn_dot (Pn_vv h hk0) (Pn_vv h hk0) (by omega)).mono (show _ ≤ 6 * k + 2 by omega)
 have g2 := rsqrt_good (Ψ .cr (vdot (vv v) (vv v))) (Rn_cr.2 qd) (by omega) (by omega)
 rw [rv_cr] at g2
 have ql : Qn (6 * k + 2) ((rsq (vdot (vv v) (vv v))).getD 0) := by
  cases hr : rsq (vdot (vv v) (vv v)) with
  | none => exact Qn_zero (by omega)
  | some l => exact rsq_n qd hr (by omega)
 have g3 := of11_good
 have g4 := rdiv_good (Ψ .cr 1) (Ψ .cr ((rsq (vdot (vv v) (vv v))).getD 0)) (Rn_cr.2 Qn_one') (Rn_cr.2 ql) (by omega) (by omega) (by omega) (by omega)
 rw [rv_cr, rv_cr] at g4
 rw [unitR_eq, unitS_is]
 have g5 := of01_good
 have g6 := vof_good 0 0 0 (by omega) (by omega) (by omega) (by omega) (by omega) (by omega)
 have e0 : (⟨((0 : Int) : Rat), ((0 : Int) : Rat), ((0 : Int) : Rat)⟩ : V3) = v0 := rfl
 rw [e0] at g6
 generalize hL : (rsq (vdot (vv v) (vv v))).getD 0 = L at *
 generalize (rsq (vdot (vv v) (vv v))).isSome = ok at *
 by_cases hz : L = 0
 ·have e1 : decide (L ≠ 0) = false := decide_eq_false (fun h => h hz)
  rw [e1] at g4 ⊢
  clear e1 hL hz
  generalize Ψ .cr (1 / L) = K at *
  cases ok
  all_goals
   simp only [Bool.and_false, Bool.false_eq_true, if_false]
   exact rq trivial
 ·have e1 : decide (L ≠ 0) = true := decide_eq_true hz
  rw [e1] at g4 ⊢
  have qk := (Qn_div Qn_one' ql (by omega)).mono (show _ ≤ 6 * k + 3 by omega)
  have g7 := vscale_good (Ψ .cr (1 / L)) v (Rn_cr.2 qk) (h.mono (show k ≤ 6 * k + 3 by omega)) (by omega) (by omega)
  rw [rv_cr] at g7
  clear e1 hL
  cases ok
  ·simp only [Bool.and_true, Bool.false_eq_true, if_false]
   exact rq trivial
  ·simp only [Bool.and_true, if_true]
   exact rq trivial
theorem tnormal_good (t : TL) {k : Nat} (h : Tn k t) (hk : 0 < k) (hk2 : k < 4294967296) :
  Good P F.tri_Normal [.d (.agg (dT Ψ t))] [] (.d (.agg (dV Ψ (Ψ .cV (normS (tv t)))))) [] := by
 refine G.tri_Normal fun C C2 hC hC2 => ?_
 have g1 := sides_good t h hk (by omega)
 have pb := Pn_sub (Pn_vv h.b hk) (Pn_vv h.a hk)
 have pc := Pn_sub (Pn_vv h.c hk) (Pn_vv h.a hk)
 have g2 := vcross_good _ _ (Vn_cV pb) (Vn_cV pc) (by omega) (by omega)
 rw [vv_cV, vv_cV] at g2
 have e : normS (tv t) = vcross (vsub (vv t.b) (vv t.a)) (vsub (vv t.c) (vv t.a)) := rfl
 rw [e]
 exact rq trivial
theorem of12_good : Good P F.rat_Of [.d (.i .i64 1), .d (.i .i64 2)] [] (.d (.agg (dR Ψ (Ψ .cr (1 / 2))))) [] := by
 have g := rof_good 1 2 (by omega) (by omega) (by omega) (by omega)
 exact g
theorem tunit_good (t : TL) {k : Nat} (h : Tn k t) (hk : 0 < k) (hk2 : k ≤ 70) :
  Good P F.tri_Unit [.d (.agg (dT Ψ t))] [] (.tup [.d (.agg (dV Ψ (Ψ .cV (unitR (normS (tv t))).1))), .d (.agg (dR Ψ (Ψ .cr ((unitR (normS (tv t))).2 * (1 / 2))))), .d (.b (unitS (normS (tv t))).isSome)]) [] := by
 refine G.tri_Unit fun C C2 hC hC2 => ?_
 have g1 := tnormal_good t h hk (by omega)
 have pn := Pn_norm (T3n h hk) hk
 have g2 := vunit_good (Ψ .cV (normS (tv t))) (Vn_cV pn) (by omega) (by omega)
 rw [vv_cV] at g2
 have qu := (unit_n pn (by omega)).2
 have g3 := of12_good
 have qh : Qn 2 ((1 : Rat) / 2) := ⟨by decide +kernel, by decide +kernel⟩
 have g4 := prod2_good (Ψ .cr (unitR (normS (tv t))).2) (Ψ .cr (1 / 2)) (k := 6 * (8 * k + 5) + 2) (Rn_cr.2 qu) (Rn_cr.2 (qh.mono (by omega))) (by omega) (by omega)
 rw [rv_cr, rv_cr] at g4
 clear qh
 generalize Ψ .cr ((unitR (normS (tv t))).2 * (1 / 2)) = A at *
 generalize Ψ .cr (1 / 2) = H at *
 generalize (unitS (normS (tv t))).isSome = ok at *
 generalize Ψ .cV (unitR (normS (tv t))).1 = U at *
 generalize Ψ .cr (unitR (normS (tv t))).2 = L at *
 exact rq trivial
theorem tpoint_good (t : TL) (u v : RL) {k : Nat} (h : Tn k t) (hu : Rn k u) (hv : Rn k v) (hk : 0 < k) (hk2 : k < 67108864) :
  Good P F.tri_Point [.d (.agg (dT Ψ t)), .d (.agg (dR Ψ u)), .d (.agg (dR Ψ v))] [] (.d (.agg (dV Ψ (Ψ .cV (pointS (tv t) (rv u) (rv v)))))) [] := by
 refine G.tri_Point fun C C2 hC hC2 => ?_
 have g1 := sides_good t h hk (by omega)
 have pb := Pn_sub (Pn_vv h.b hk) (Pn_vv h.a hk)
 have pc := Pn_sub (Pn_vv h.c hk) (Pn_vv h.a hk)
 have g2 := vscale_good u (Ψ .cV (vsub (vv t.b) (vv t.a))) (hu.mono (show k ≤ k + k + 1 by omega)) (Vn_cV pb) (by omega) (by omega)
 have g3 := vscale_good v (Ψ .cV (vsub (vv t.c) (vv t.a))) (hv.mono (show k ≤ k + k + 1 by omega)) (Vn_cV pc) (by omega) (by omega)
 rw [vv_cV] at g2 g3
 have p2 := (Pn_mul (Qn_rv hu hk) pb (by omega)).mono (show _ ≤ 3 * k + 1 by omega)
 have p3 := (Pn_mul (Qn_rv hv hk) pc (by omega)).mono (show _ ≤ 3 * k + 1 by omega)
 have g4 := vsum_good [t.a, Ψ .cV (vmul (rv u) (vsub (vv t.b) (vv t.a))), Ψ .cV (vmul (rv v) (vsub (vv t.c) (vv t.a)))] (k := 3 * k + 1) (fun r h' => by
  rcases mem3 h' with rfl | rfl | rfl
  ·exact h.a.mono (by omega)
  ·exact Vn_cV p2
  ·exact Vn_cV p3) (by omega) (by simp only [List.length_cons, List.length_nil]; omega)
 have e : vsum [t.a, Ψ .cV (vmul (rv u) (vsub (vv t.b) (vv t.a))), Ψ .cV (vmul (rv v) (vsub (vv t.c) (vv t.a)))] = pointS (tv t) (rv u) (rv v) := by
  simp only [vsum, List.map_cons, List.map_nil, List.foldl_cons, List.foldl_nil, vv_cV]
  show _ = vadd (vv t.a) (vadd (vmul (rv u) (vsub (vv t.b) (vv t.a))) (vmul (rv v) (vsub (vv t.c) (vv t.a))))
  generalize vmul (rv u) (vsub (vv t.b) (vv t.a)) = x
  generalize vmul (rv v) (vsub (vv t.c) (vv t.a)) = y
  unfold vadd v0
  refine V3.mk_eq ?_ ?_ ?_ <;> grind
 rw [e] at g4
 have e2 : Ψ .dVs [t.a, Ψ .cV (vmul (rv u) (vsub (vv t.b) (vv t.a))), Ψ .cV (vmul (rv v) (vsub (vv t.c) (vv t.a)))] = [.agg (dV Ψ t.a), .agg (dV Ψ (Ψ .cV (vmul (rv u) (vsub (vv t.b) (vv t.a))))), .agg (dV Ψ (Ψ .cV (vmul (rv v) (vsub (vv t.c) (vv t.a)))))] := rfl
 rw [e2] at g4
 exact rq trivial
theorem check3_good (r : RL) {k : Nat} (h : Rn k r) (hk0 : 0 < k) (hk : k < 137438953472) : Good P F.penumbraref03_Check [.d (.agg (dR Ψ r))] [] (.d (.b (decide (r = Ψ .cr (rv r))))) [] := by
 refine G.penumbraref03_Check fun C C2 hC hC2 => ?_
 have g1 := read3_good r h hk
 have g2 := is3_good (Ψ .cr (rv r)) r (Rn_cr.2 (Qn_rv h hk0)) h (by omega) (by omega)
 have e : decide (Ψ .cr (rv r) = r) = decide (r = Ψ .cr (rv r)) := decide_eq_decide.2 ⟨fun h => h.symm, fun h => h.symm⟩
 rw [e] at g2
 generalize decide (r = Ψ .cr (rv r)) = R at *
 exact rq trivial
theorem sqrt3_good (r : RL) {k : Nat} (h : Rn k r) (hk0 : 0 < k) (hk : k ≤ 4096) :
  Good P F.penumbraref03_Sqrt [.d (.agg (dR Ψ r))] [] (.tup [.d (.agg (dR Ψ (Ψ .cr ((rsq (rv r)).getD 0)))), .d (.b (rsq (rv r)).isSome)]) [] := by
 refine G.penumbraref03_Sqrt fun C C2 hC hC2 => ?_
 have g1 := read3_good r h (by omega)
 have qn := Qn_rv h hk0
 rw [sqrt_parts, sqrt_is]
 generalize rv r = q at *
 have l1 := len_cn.2 qn.n
 have l2 := len_cn.2 qn.d
 have g2 := sqrt2_good (Ψ .cn q.num.natAbs) ⟨lim_cn _, by omega⟩ (by omega)
 have g3 := sqrt2_good (Ψ .cn q.den) ⟨lim_cn _, by omega⟩ (by omega)
 rw [nv_cn] at g2 g3
 have a1 := sq_le q.num.natAbs
 have a2 := sq_le q.den
 have b1 : sq q.num.natAbs < 4294967296 ^ k := Nat.lt_of_le_of_lt (Nat.le_trans (Nat.le_mul_self _) a1) qn.n
 have b2 : sq q.den < 4294967296 ^ k := Nat.lt_of_le_of_lt (Nat.le_trans (Nat.le_mul_self _) a2) qn.d
 have c1 := len_cn.2 b1
 have c2 := len_cn.2 b2
 have g4 := read3_good ⟨false, Ψ .cn (sq q.num.natAbs), Ψ .cn (sq q.den)⟩ (k := k) ⟨lim_cn _, lim_cn _, c1, c2⟩ (by omega)
 rw [rv_mk, nv_cn, nv_cn] at g4
 have ec : Ψ .cr q = ⟨decide (q.num < 0), Ψ .cn q.num.natAbs, Ψ .cn q.den⟩ := rfl
 rw [ec] at g1
 clear a1 a2 b1 b2 c1 c2 l1 l2 qn ec
 generalize decide (sq q.num.natAbs * sq q.num.natAbs = q.num.natAbs) = t1 at *
 generalize decide (sq q.den * sq q.den = q.den) = t2 at *
 generalize decide (q.num < 0) = t3 at *
 generalize mkRat (sg false (sq q.num.natAbs)) (sq q.den) = w at *
 have g5 := zero3_good
 cases t1 <;> cases t2 <;> cases t3
 all_goals
  simp only [Bool.and_true, Bool.and_false, Bool.true_and, Bool.false_and, Bool.not_true, Bool.not_false, if_true, Bool.false_eq_true, if_false]
  exact rq trivial
theorem unit5_good (v : VL) {k : Nat} (h : Vn k v) (hk0 : 0 < k) (hk : k ≤ 600) :
  Good P F.penumbraref05_Unit [.d (.agg (dV Ψ v))] [] (.tup [.d (.agg (dV Ψ (Ψ .cV (unitR (vv v)).1))), .d (.agg (dR Ψ (Ψ .cr (unitR (vv v)).2))), .d (.b (unitS (vv v)).isSome)]) [] := by
 refine G.penumbraref05_Unit fun C C2 hC hC2 => ?_
 have g1 := dot5_good v v h h hk0 hk0 (by omega) (by omega)
 have qd := (Qn_dot (Pn_vv h hk0) (Pn_vv h hk0) (by omega)).mono (show _ ≤ 6 * k + 2 by omega)
 have g2 := sqrt3_good (Ψ .cr (vdot (vv v) (vv v))) (Rn_cr.2 qd) (by omega) (by omega)
 rw [rv_cr] at g2
 have ql : Qn (6 * k + 2) ((rsq (vdot (vv v) (vv v))).getD 0) := by
  cases hr : rsq (vdot (vv v) (vv v)) with
  | none => exact Qn_zero (by omega)
  | some l => exact rsq_n qd hr (by omega)
 have g3 := one3_good
 have g4 := over3_good (Ψ .cr 1) (Ψ .cr ((rsq (vdot (vv v) (vv v))).getD 0)) (Rn_cr.2 Qn_one') (Rn_cr.2 ql) (by omega) (by omega)
 rw [rv_cr, rv_cr] at g4
 have g8 := sign3_good (Ψ .cr ((rsq (vdot (vv v) (vv v))).getD 0)) (Rn_cr.2 ql) (by omega)
 rw [rv_cr] at g8
 rw [unitR_eq, unitS_is]
 have g5 := zero3_good
 have g6 := zero5_good
 generalize hL : (rsq (vdot (vv v) (vv v))).getD 0 = L at *
 generalize (rsq (vdot (vv v) (vv v))).isSome = ok at *
 have zs := @sI_zero L
 generalize Ψ .sI L = s at *
 by_cases hz : L = 0
 ·have e1 : decide (L ≠ 0) = false := decide_eq_false (fun h => h hz)
  have q1 := eq_true'.2 (zs.2 hz)
  rw [e1]
  clear e1 hL hz
  cases ok
  all_goals
   simp only [Bool.and_false, Bool.false_eq_true, if_false]
   exact rq trivial
 ·have e1 : decide (L ≠ 0) = true := decide_eq_true hz
  have q1 := eq_false'.2 (mt zs.1 hz)
  rw [e1]
  have qk := (Qn_div Qn_one' ql (by omega)).mono (show _ ≤ 6 * k + 3 by omega)
  have g7 := scale5_good (Ψ .cr (1 / L)) v (Rn_cr.2 qk) (h.mono (show k ≤ 6 * k + 3 by omega)) (by omega)
  rw [rv_cr] at g7
  clear e1 hL
  cases ok
  ·simp only [Bool.and_true, Bool.false_eq_true, if_false]
   exact rq trivial
  ·simp only [Bool.and_true, if_true]
   exact rq trivial
theorem of312_good : Good P F.penumbraref03_Of [.d (.i .i64 1), .d (.i .i64 2)] [] (.d (.agg (dR Ψ (Ψ .cr (1 / 2))))) [] := by
 have g := of3_good 1 2 (by omega) (by omega) (by omega) (by omega)
 exact g
theorem unit8_good (t : TL) {k : Nat} (h : Tn k t) (hk : 0 < k) (hk2 : k ≤ 70) :
  Good P F.penumbraref08_Unit [.d (.agg (dT Ψ t))] [] (.tup [.d (.agg (dV Ψ (Ψ .cV (unitR (normS (tv t))).1))), .d (.agg (dR Ψ (Ψ .cr ((unitR (normS (tv t))).2 * (1 / 2))))), .d (.b (unitS (normS (tv t))).isSome)]) [] := by
 refine G.penumbraref08_Unit fun C C2 hC hC2 => ?_
 have g1 := normal8_good t h hk (by omega)
 have e : vcross (vsub (vv t.b) (vv t.a)) (vsub (vv t.c) (vv t.a)) = normS (tv t) := rfl
 rw [e] at g1
 have pn := Pn_norm (T3n h hk) hk
 have g2 := unit5_good (Ψ .cV (normS (tv t))) (Vn_cV pn) (by omega) (by omega)
 rw [vv_cV] at g2
 have qu := (unit_n pn (by omega)).2
 have g3 := of312_good
 have qh : Qn 2 ((1 : Rat) / 2) := ⟨by decide +kernel, by decide +kernel⟩
 have g4 := mul3_good (Ψ .cr (unitR (normS (tv t))).2) (Ψ .cr (1 / 2)) (j := 6 * (8 * k + 5) + 2) (k := 2) (Rn_cr.2 qu) (Rn_cr.2 qh) (by omega) (by omega)
 rw [rv_cr, rv_cr] at g4
 clear qh
 generalize Ψ .cr ((unitR (normS (tv t))).2 * (1 / 2)) = A at *
 generalize Ψ .cr (1 / 2) = H at *
 generalize (unitS (normS (tv t))).isSome = ok at *
 generalize Ψ .cV (unitR (normS (tv t))).1 = U at *
 generalize Ψ .cr (unitR (normS (tv t))).2 = L at *
 exact rq trivial
theorem of5_good (x y z : Int) (h1 : -9223372036854775808 ≤ x) (h2 : x ≤ 9223372036854775807) (h3 : -9223372036854775808 ≤ y) (h4 : y ≤ 9223372036854775807) (h5 : -9223372036854775808 ≤ z) (h6 : z ≤ 9223372036854775807) :
  Good P F.penumbraref05_Of [.d (.i .i64 x), .d (.i .i64 y), .d (.i .i64 z)] [] (.d (.agg (dV Ψ (Ψ .cV ⟨x, y, z⟩)))) [] := by
 refine G.penumbraref05_Of fun C C2 hC hC2 => ?_
 have g1 := of3_good x 1 h1 h2 (by omega) (by omega)
 have g2 := of3_good y 1 h3 h4 (by omega) (by omega)
 have g3 := of3_good z 1 h5 h6 (by omega) (by omega)
 have e : ∀ n : Int, (n : Rat) / ((1 : Int) : Rat) = n := fun n => by
  have : ((1 : Int) : Rat) = 1 := rfl
  rw [this]; grind
 rw [e] at g1 g2 g3
 have hV : Ψ .cV ⟨x, y, z⟩ = ⟨Ψ .cr x, Ψ .cr y, Ψ .cr z⟩ := rfl
 rw [hV]
 generalize Ψ .cr (x : Rat) = X at *
 generalize Ψ .cr (y : Rat) = Y at *
 generalize Ψ .cr (z : Rat) = Z at *
 exact rq trivial
end Go.K.S
end
section
namespace Go.K
open Go
structure ScD (s : ScL) (MD FD : List D) : Prop where
 m : ∀ (i : Nat) m, s.mats[i]? = some m → Ω .sget MD i = some (.agg (dMat Ψ m))
 ml : Ω .slen MD = s.mats.length
 f : ∀ (i : Nat) f, s.faces[i]? = some f → Ω .sget FD i = some (.agg (dFace Ψ f))
 fl : Ω .slen FD = s.faces.length
theorem scD_of (s : ScL) : ScD s (matsD s.mats) (facesD s.faces) where
 m := fun i m h => by simp [matsD, w_sget, h]
 ml := by simp [matsD, w_slen]
 f := fun i m h => by simp [facesD, w_sget, h]
 fl := by simp [facesD, w_slen]
theorem all_take_succ {α : Type} {l : List α} {p : α → Bool} {i : Nat} {x : α} (h : l[i]? = some x) : (l.take (i + 1)).all p = ((l.take i).all p && p x) := by
 rw [take_succ_of h, List.all_append]; simp
theorem all_false_of {α : Type} {l : List α} {p : α → Bool} {i : Nat} {x : α} (h : l[i]? = some x) (hp : p x = false) : l.all p = false := by
 rw [List.all_eq_false]
 exact ⟨x, List.mem_of_getElem? h, by simp [hp]⟩
theorem all_take_all {α : Type} {l : List α} {p : α → Bool} : (l.take l.length).all p = l.all p := by rw [List.take_length]
theorem hx_dRs {l : List RL} {i : Nat} {r : RL} (h : l[i]? = some r) : Ω .sget (Ψ .dRs l) i = some (.agg (dR Ψ r)) := by rw [sget_dRs, h]; rfl
theorem hx_dVs {l : List VL} {i : Nat} {r : VL} (h : l[i]? = some r) : Ω .sget (Ψ .dVs l) i = some (.agg (dV Ψ r)) := by rw [sget_dVs, h]; rfl
end Go.K
namespace Go.K.S
open Go Go.K
theorem fits_good (l : List RL) {k : Nat} (hl : ∀ r, r ∈ l → Rn k r) (hk0 : 0 < k) (hk : k < 137438953472) (hs : l.length < 1099511627776) :
  Good P F.scene_fits [.d (.sl (Ψ .dRs l))] [] (.d (.b (l.all fitR))) [] := by
 refine G.scene_fits fun C C2 hC hC2 => ?_
 obtain ⟨R, hR⟩ : ∃ R, R = l.all fitR := ⟨_, rfl⟩
 rw [← hR]
 have hst : ∀ i r, l[i]? = some r → fitR r = true → (l.take i).all fitR = true → (l.take (i + 1)).all fitR = true := fun i r h h1 h2 => by rw [all_take_succ h, h1, h2]; rfl
 have hbad : ∀ i r, l[i]? = some r → fitR r = false → R = false := fun i r h h1 => by rw [hR]; exact all_false_of h h1
 have hend : (l.take l.length).all fitR = true → R = true := fun h => by rw [hR, ← all_take_all]; exact h
 clear hR
 refine rq ?_
 refine LoopG.intro (σ := Nat) [5, 6, 7] [] (fun i => [.d (.sl (Ψ .dRs l)), .d (.i .i64 (Ω .ci l.length)), .d (.i .i64 (Ω .ci i))]) (fun _ => []) (fun i => i ≤ l.length ∧ (l.take i).all fitR = true) (fun i => l.length - i) 0 []
  ⟨Nat.zero_le _, rfl⟩ ⟨rfl, rfl, rfl⟩ ?_
 rintro i ⟨hi, ha⟩
 rcases Nat.lt_or_ge i l.length with hlt | hge
 ·obtain ⟨r, hr⟩ : ∃ r, l[i]? = some r := ⟨_, List.getElem?_eq_getElem hlt⟩
  have hx := hx_dRs hr
  have hrn := hl r (List.mem_of_getElem? hr)
  have q0 : Ω .lt (Ω .ci i) (Ω .ci l.length) = true := by simp only [wz]; omega
  have g1 := rcheck_good r hrn hk0 (by omega)
  have g2 := bits_good r.num (hrn.N1 (by omega))
  have g3 := bits_good r.den (hrn.N2 (by omega))
  have hs' := hst i r hr
  have hb' := hbad i r hr
  unfold fitR at hs' hb'
  have e1 : decide (bl (nv r.num) ≤ 64) = !(Ω .lt 64 (Ω .ci (bl (nv r.num)))) := by
   by_cases h : bl (nv r.num) ≤ 64
   ·rw [decide_eq_true h, lt_false.2 (by simp only [wz]; omega)]; rfl
   ·rw [decide_eq_false h, lt_true.2 (by simp only [wz]; omega)]; rfl
  have e2 : decide (bl (nv r.den) ≤ 64) = !(Ω .lt 64 (Ω .ci (bl (nv r.den)))) := by
   by_cases h : bl (nv r.den) ≤ 64
   ·rw [decide_eq_true h, lt_false.2 (by simp only [wz]; omega)]; rfl
   ·rw [decide_eq_false h, lt_true.2 (by simp only [wz]; omega)]; rfl
  rw [e1, e2] at hs' hb'
  clear e1 e2
  generalize decide (r = Ψ .cr (rv r)) = t1 at *
  generalize bl (nv r.num) = b1 at *
  generalize bl (nv r.den) = b2 at *
  cases t1 with
  | false =>
   have := hb' rfl
   subst this
   exact rq trivial
  | true =>
   cases q1 : Ω .lt 64 (Ω .ci b1) with
   | true =>
    rw [q1] at hb'
    have := hb' rfl
    subst this
    exact rq trivial
   | false =>
    cases q2 : Ω .lt 64 (Ω .ci b2) with
    | true =>
     rw [q1, q2] at hb'
     have := hb' rfl
     subst this
     exact rq trivial
    | false =>
     rw [q1, q2] at hs'
     refine rq ?_
     refine ⟨i + 1, [], ⟨hlt, hs' rfl ha⟩, by omega, rfl, ?_, rfl⟩
     refine Eq.trans (b := [.d (.sl (Ψ .dRs l)), .d (.i .i64 (Ω .ci l.length)), .d (.i .i64 _)]) rfl ?_
     rw [wrap_succ (by omega)]
 ·have q0 : Ω .lt (Ω .ci i) (Ω .ci l.length) = false := by simp only [wz]; omega
  have hil : i = l.length := by omega
  rw [hil] at ha
  have := hend ha
  subst this
  exact rq trivial
theorem fit_good (l : List VL) {k : Nat} (hl : ∀ r, r ∈ l → Vn k r) (hk0 : 0 < k) (hk : k < 137438953472) (hs : l.length < 1099511627776) :
  Good P F.scene_fit [.d (.sl (Ψ .dVs l))] [] (.d (.b (l.all fitV))) [] := by
 refine G.scene_fit fun C C2 hC hC2 => ?_
 obtain ⟨R, hR⟩ : ∃ R, R = l.all fitV := ⟨_, rfl⟩
 rw [← hR]
 have hst : ∀ i r, l[i]? = some r → fitV r = true → (l.take i).all fitV = true → (l.take (i + 1)).all fitV = true := fun i r h h1 h2 => by rw [all_take_succ h, h1, h2]; rfl
 have hbad : ∀ i r, l[i]? = some r → fitV r = false → R = false := fun i r h h1 => by rw [hR]; exact all_false_of h h1
 have hend : (l.take l.length).all fitV = true → R = true := fun h => by rw [hR, ← all_take_all]; exact h
 clear hR
 refine rq ?_
 refine LoopG.intro (σ := Nat) [5, 6, 7] [] (fun i => [.d (.sl (Ψ .dVs l)), .d (.i .i64 (Ω .ci l.length)), .d (.i .i64 (Ω .ci i))]) (fun _ => []) (fun i => i ≤ l.length ∧ (l.take i).all fitV = true) (fun i => l.length - i) 0 []
  ⟨Nat.zero_le _, rfl⟩ ⟨rfl, rfl, rfl⟩ ?_
 rintro i ⟨hi, ha⟩
 rcases Nat.lt_or_ge i l.length with hlt | hge
 ·obtain ⟨r, hr⟩ : ∃ r, l[i]? = some r := ⟨_, List.getElem?_eq_getElem hlt⟩
  have hx := hx_dVs hr
  have hrn := hl r (List.mem_of_getElem? hr)
  have q0 : Ω .lt (Ω .ci i) (Ω .ci l.length) = true := by simp only [wz]; omega
  have g1 := fits_good [r.x, r.y, r.z] (k := k) (fun r' h => (mem3 h).elim (fun e => e ▸ hrn.x) fun h => h.elim (fun e => e ▸ hrn.y) fun e => e ▸ hrn.z) hk0 hk (by simp)
  have e1 : Ψ .dRs [r.x, r.y, r.z] = [.agg (dR Ψ r.x), .agg (dR Ψ r.y), .agg (dR Ψ r.z)] := rfl
  have e2 : [r.x, r.y, r.z].all fitR = fitV r := by simp [fitV]
  rw [e1, e2] at g1
  have hs' := hst i r hr
  have hb' := hbad i r hr
  clear e1 e2
  generalize fitV r = t1 at *
  cases t1 with
  | false =>
   have := hb' rfl
   subst this
   exact rq trivial
  | true =>
   refine rq ?_
   refine ⟨i + 1, [], ⟨hlt, hs' rfl ha⟩, by omega, rfl, ?_, rfl⟩
   refine Eq.trans (b := [.d (.sl (Ψ .dVs l)), .d (.i .i64 (Ω .ci l.length)), .d (.i .i64 _)]) rfl ?_
   rw [wrap_succ (by omega)]
 ·have q0 : Ω .lt (Ω .ci i) (Ω .ci l.length) = false := by simp only [wz]; omega
  have hil : i = l.length := by omega
  rw [hil] at ha
  have := hend ha
  subst this
  exact rq trivial
end Go.K.S
end
section
namespace Go.K
open Go
theorem etaM_eq {waves : List RL} {m : MatL} {bin : Nat} {w : RL} (hw : waves[bin]? = some w) : etaM waves m bin = if m.kind = 2 ∧ rv w ≠ 0 then some (rv m.a + rv m.b / (rv w * rv w)) else none := by
 unfold etaM; rw [hw]
theorem q_ge {a b : Nat} (h : a < b) : Ω .le (Ω .ci b) (Ω .ci a) = false := by simp only [wz]; omega
theorem q_neg (a : Nat) : Ω .lt (Ω .ci a) 0 = false := by simp only [wz]; omega
theorem qs_pos {q : Rat} : Ω .le (Ψ .sI q) 0 = !decide (0 < q) := by
 by_cases h : 0 < q
 ·rw [decide_eq_true h, le_false.2 (sI_pos.2 h)]; rfl
 ·rw [decide_eq_false h, le_true.2 (by have := mt (@sI_pos q).1 h; omega)]; rfl
theorem qs_neg {q : Rat} : Ω .lt (Ψ .sI q) 0 = decide (q < 0) := by
 by_cases h : q < 0
 ·rw [decide_eq_true h, lt_true.2 (sI_neg.2 h)]
 ·rw [decide_eq_false h, lt_false.2 (by have := mt (@sI_neg q).1 h; omega)]
theorem qs_zero {q : Rat} : Ω .eq (Ψ .sI q) 0 = decide (q = 0) := by
 by_cases h : q = 0
 ·rw [decide_eq_true h, eq_true'.2 (sI_zero.2 h)]
 ·rw [decide_eq_false h, eq_false'.2 (mt sI_zero.1 h)]
theorem qc_pos {p q : Rat} : Ω .lt 0 (Ψ .cI p q) = decide (q < p) := by
 by_cases h : q < p
 ·rw [decide_eq_true h, lt_true.2 (cI_pos.2 h)]
 ·rw [decide_eq_false h, lt_false.2 (by have := mt (@cI_pos p q).1 h; omega)]
theorem q_eq {a b : Int} : Ω .eq a b = decide (a = b) := by
 by_cases h : a = b
 ·rw [decide_eq_true h, eq_true'.2 h]
 ·rw [decide_eq_false h, eq_false'.2 h]
theorem q_ne {a b : Int} : Ω .ne a b = !decide (a = b) := by
 by_cases h : a = b
 ·rw [decide_eq_true h, ne_false'.2 h]; rfl
 ·rw [decide_eq_false h, ne_true'.2 h]; rfl
end Go.K
namespace Go.K.S
open Go Go.K
theorem of14_good : Good P F.rat_Of [.d (.i .i64 1), .d (.i .i64 4)] [] (.d (.agg (dR Ψ (Ψ .cr (1 / 4))))) [] := by
 have g := rof_good 1 4 (by omega) (by omega) (by omega) (by omega)
 exact g
theorem eta_good (s : ScL) {MD FD : List D} (hD : ScD s MD FD) {i bin : Nat} {m : MatL} {w : RL} (hm : s.mats[i]? = some m) (hw : s.waves[bin]? = some w) {k : Nat} (ha : Rn k m.a) (hb : Rn k m.b) (hwn : Rn k w) (hk : 0 < k) (hk2 : k < 268435456) :
  Good P F.scene_Eta [.d (.agg (dSc Ψ MD FD s)), .d (.i .i64 (Ω .ci i)), .d (.i .i64 (Ω .ci bin))] []
   (.tup [.d (.agg (dR Ψ (Ψ .cr ((etaM s.waves m bin).getD 0)))), .d (.b (etaM s.waves m bin).isSome)]) [] := by
 refine G.scene_Eta fun C C2 hC hC2 => ?_
 rw [etaM_eq hw]
 have hx1 := hD.m i m hm
 have hx2 := hx_dRs hw
 have hml := hD.ml
 have hi : i < s.mats.length := (List.getElem?_eq_some_iff.1 hm).1
 have hj : bin < s.waves.length := (List.getElem?_eq_some_iff.1 hw).1
 have q1 := q_neg i
 have q2 := q_ge hi
 have q3 := q_neg bin
 have q4 := q_ge hj
 rw [← hml] at q2
 have g1 := prod2_good w w hwn hwn hk (by omega)
 have qw := (Qn_mul (Qn_rv hwn hk) (Qn_rv hwn hk) (by omega)).mono (show _ ≤ 2 * k by omega)
 have g2 := rdiv_good m.b (Ψ .cr (rv w * rv w)) hb (Rn_cr.2 qw) hk (by omega) (by omega) (by omega)
 rw [rv_cr] at g2
 have qd := (Qn_div (Qn_rv hb hk) qw (by omega)).mono (show _ ≤ 3 * k by omega)
 have g3 := sum2_good m.a (Ψ .cr (rv m.b / (rv w * rv w))) (ha.mono (show k ≤ 3 * k by omega)) (Rn_cr.2 qd) (by omega) (by omega)
 rw [rv_cr] at g3
 have g0 := of01_good
 have ez : decide (rv w * rv w ≠ 0) = decide (rv w ≠ 0) := decide_eq_decide.2 ⟨fun h e => h (by rw [e]; grind), fun h e => h ((Rat.mul_eq_zero.1 e).elim id id)⟩
 rw [ez] at g2
 clear ez qd qw
 by_cases hk2 : m.kind = 2
 ·have q5 : Ω .ne m.kind 2 = false := by rw [q_ne, decide_eq_true hk2]; rfl
  by_cases hz : rv w = 0
  ·rw [if_neg (fun h => h.2 hz)]
   rw [show decide (rv w ≠ 0) = false from decide_eq_false (fun h => h hz)] at g2
   generalize Ψ .cr (rv m.b / (rv w * rv w)) = A at *
   generalize Ψ .cr (rv w * rv w) = B at *
   simp only [Option.getD_none, Option.isSome_none]
   exact rq trivial
  ·rw [if_pos ⟨hk2, hz⟩]
   rw [show decide (rv w ≠ 0) = true from decide_eq_true hz] at g2
   simp only [Option.getD_some, Option.isSome_some]
   generalize Ψ .cr (rv m.a + rv m.b / (rv w * rv w)) = A2 at *
   generalize Ψ .cr (rv m.b / (rv w * rv w)) = A at *
   generalize Ψ .cr (rv w * rv w) = B at *
   exact rq trivial
 ·rw [if_neg (fun h => hk2 h.1)]
  have q5 : Ω .ne m.kind 2 = true := by rw [q_ne, decide_eq_false hk2]; rfl
  simp only [Option.getD_none, Option.isSome_none]
  exact rq trivial
end Go.K.S
end
