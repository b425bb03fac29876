/-
  Parts of the proof, joined by a program of this work: KLow, KMul, KDiv, KShift, KShr, KLess, KBack, KOwn, KLessOwn, KKnuth, KRat, KLong.
-/
import Derived.Test.YtjoimiljaljgcaaGreatMbf
set_option linter.unusedSimpArgs false
set_option linter.unusedVariables false
set_option maxHeartbeats 20000000
set_option maxRecDepth 20000
section
namespace Go.K.S
open Go Go.K
theorem clone_good (l : List Nat) (hb : l.length ≤ 1099511627776) : Good P F.slices_Clone_L_uint32_uint32 [.d (dN Ψ l)] [] (.d (dN Ψ l)) [] := by
 refine G.slices_Clone_L_uint32_uint32 fun C C2 hC hC2 => ?_
 refine nx ?_
 intro t ht
 cases t
 ·refine nx ?_
  refine ⟨lims_cells l, ⟨by omega, by omega⟩, ?_⟩
  rfl
 ·refine nx ?_
  rw [ht rfl]
theorem add32_good (x y c : Nat) (hx : x < 4294967296) (hy : y < 4294967296) (hc : c ≤ 1) :
  Good P F.math_bits_Add32 [.d (.i .u32 (Ω .ci x)), .d (.i .u32 (Ω .ci y)), .d (.i .u32 (Ω .ci c))] []
   (.tup [.d (.i .u32 (Ω .ci ((x + y + c) % 4294967296))), .d (.i .u32 (Ω .ci ((x + y + c) / 4294967296)))]) [] := by
 refine G.math_bits_Add32 fun C C2 hC hC2 => ?_
 refine nx ?_
 rw [wrapu64_ci, wrapu64_ci, wrapu64_ci, ci_add, wrapu64_ci, ci_add, wrapu64_ci, wrapu32_ci, ishr32, wrapu32_ci]
 have e : ((x % 18446744073709551616 + y % 18446744073709551616) % 18446744073709551616 + c % 18446744073709551616) % 18446744073709551616 = x + y + c := by omega
 rw [e, show (x + y + c) / 4294967296 % 4294967296 = (x + y + c) / 4294967296 by omega]
theorem sub32_good (x y c : Nat) (hx : x < 4294967296) (hy : y < 4294967296) (hc : c ≤ 1) :
  Good P F.math_bits_Sub32 [.d (.i .u32 (Ω .ci x)), .d (.i .u32 (Ω .ci y)), .d (.i .u32 (Ω .ci c))] []
   (.tup [.d (.i .u32 (Ω .ci ((4294967296 + x - y - c) % 4294967296))), .d (.i .u32 (Ω .ci (if x < y + c then 1 else 0)))]) [] := by
 refine G.math_bits_Sub32 fun C C2 hC hC2 => ?_
 refine nx ?_
 have h1 : (4294967296 + x - y - c) % 4294967296 < 4294967296 := Nat.mod_lt _ (by omega)
 have lt : ∀ a b, a < 4294967296 → b < 4294967296 → a ^^^ b < 4294967296 := fun a b ha hb => Nat.xor_lt_two_pow (n := 32) ha hb
 have e1 : Ω .ixor IntKind.u32 4294967295 (Ω .ci x) = Ω .ci (4294967295 ^^^ x) := ixor_ci (a := 4294967295) (by omega) hx
 have e2 : Ω .ixor IntKind.u32 4294967295 (Ω .ci (x ^^^ y)) = Ω .ci (4294967295 ^^^ (x ^^^ y)) := ixor_ci (a := 4294967295) (by omega) (lt _ _ hx hy)
 rw [sub32_diff hx hy hc, e1, ixor_ci hx hy, e2, iand_ci (lt _ _ (by omega) hx) hy, iand_ci (lt _ _ (by omega) (lt _ _ hx hy)) h1,
  ior_ci (Nat.lt_of_le_of_lt Nat.and_le_right hy) (Nat.lt_of_le_of_lt Nat.and_le_right h1), ishr31, sub32_bit hx hy hc]
theorem len32_good (x : Nat) (hx : x < 4294967296) : Good P F.math_bits_Len32 [.d (.i .u32 (Ω .ci x))] [] (.d (.i .i64 (Ω .ci (bl x)))) [] := by
 refine G.math_bits_Len32 fun C C2 hC hC2 => ?_
 have w : ∀ n : Nat, n ≤ 100 → Ω .wrap .i64 (Ω .ci n) = Ω .ci n := fun n h => wrap_ci (by omega)
 have b8 : ∀ n, n < 256 → bl n ≤ 8 := fun n h => bl_le.2 h
 refine nx ?_
 refine BrG.split (fun h => ?_) (fun h => ?_)
 ·have h0 : 65536 ≤ x := by have := h; simp only [wz] at this; omega
  have hd : bl x = 16 + bl (x / 65536) := bl_div (n := x) (k := 16) h0
  refine nx ?_
  rw [ishr16]
  refine BrG.split (fun h => ?_) (fun h => ?_)
  ·have h1 : 256 ≤ x / 65536 := by have := h; simp only [wz] at this; omega
   have hd2 : bl (x / 65536) = 8 + bl (x / 65536 / 256) := bl_div (n := x / 65536) (k := 8) h1
   have hl := b8 (x / 65536 / 256) (by omega)
   refine nx ?_
   rw [ishr8]
   refine tab_idx (x / 65536 / 256) (by rw [wrapu8_ci, Nat.mod_eq_of_lt (by omega)]) (by kernel_rfl) (by omega) ?_
   refine nx ?_
   rw [w _ (by omega), show (24 : Int) = Ω .ci 24 from rfl, w _ (by omega), ci_add, w _ (by omega), hd, hd2, ← Nat.add_assoc]
  ·have h1 : x / 65536 < 256 := by have := h; simp only [wz] at this; omega
   have hl := b8 (x / 65536) h1
   refine nx ?_
   refine tab_idx (x / 65536) (by rw [wrapu8_ci, Nat.mod_eq_of_lt (by omega)]) (by kernel_rfl) (by omega) ?_
   refine nx ?_
   rw [w _ (by omega), show (16 : Int) = Ω .ci 16 from rfl, ci_add, w _ (by omega), hd]
 ·have h0 : x < 65536 := by have := h; simp only [wz] at this; omega
  refine nx ?_
  refine BrG.split (fun h => ?_) (fun h => ?_)
  ·have h1 : 256 ≤ x := by have := h; simp only [wz] at this; omega
   have hd2 : bl x = 8 + bl (x / 256) := bl_div (n := x) (k := 8) h1
   have hl := b8 (x / 256) (by omega)
   refine nx ?_
   rw [ishr8]
   refine tab_idx (x / 256) (by rw [wrapu8_ci, Nat.mod_eq_of_lt (by omega)]) (by kernel_rfl) (by omega) ?_
   refine nx ?_
   rw [w _ (by omega), show (8 : Int) = Ω .ci 8 from rfl, w _ (by omega), ci_add, w _ (by omega), hd2]
  ·have h1 : x < 256 := by have := h; simp only [wz] at this; omega
   have hl := b8 x h1
   refine nx ?_
   refine tab_idx x (by rw [wrapu8_ci, Nat.mod_eq_of_lt (by omega)]) (by kernel_rfl) (by omega) ?_
   refine nx ?_
   rw [w _ (by omega), show (0 : Int) = Ω .ci 0 from rfl, ci_add, w _ (by omega), Nat.zero_add]
theorem lead32_good (x : Nat) (hx : x < 4294967296) : Good P F.math_bits_LeadingZeros32 [.d (.i .u32 (Ω .ci x))] [] (.d (.i .i64 (Ω .ci (32 - bl x)))) [] := by
 refine G.math_bits_LeadingZeros32 fun C C2 hC hC2 => ?_
 have hl : bl x ≤ 32 := bl_le.2 hx
 refine nx ?_
 refine ⟨_, hC _ _ _ (len32_good x hx), ?_⟩
 refine nx ?_
 rw [show (32 : Int) = Ω .ci 32 from rfl, wrap_sub hl (by omega)]
end Go.K.S
namespace Go.K.S
open Go Go.K
theorem norm_good (l : List Nat) (h : N l) : Good P F.nat_Norm [.d (dN Ψ l)] [] (.d (dN Ψ (Ψ .cn (nv l)))) [] := by
 refine G.nat_Norm fun C C2 hC hC2 => ?_
 refine nx ?_
 refine ⟨_, hC _ _ _ (trim_good l h.lim h.len), ?_⟩
 refine nx ?_
 refine ⟨_, hC _ _ _ (clone_good _ (Nat.le_of_lt h.cn.len)), ?_⟩
 exact nx trivial
theorem of_good (n : Nat) (h : n < 18446744073709551616) : Good P F.nat_Of [.d (.i .u64 (Ω .ci n))] [] (.d (dN Ψ (Ψ .cn n))) [] := by
 refine G.nat_Of fun C C2 hC hC2 => ?_
 have hl : lim [n % 4294967296, n / 4294967296] := by simp [lim_cons, lim_nil]; omega
 have hv : nv [n % 4294967296, n / 4294967296] = n := by simp; omega
 have hg := norm_good [n % 4294967296, n / 4294967296] ⟨hl, by simp⟩
 rw [hv] at hg
 refine nx ?_
 rw [ishr32, wrapu32_ci, wrapu32_ci, show n / 4294967296 % 4294967296 = n / 4294967296 by omega]
 refine ⟨_, hC _ _ _ hg, ?_⟩
 exact nx trivial
theorem bits_good (l : List Nat) (h : N l) : Good P F.nat_Bits [.d (dN Ψ l)] [] (.d (.i .i64 (Ω .ci (bl (nv l))))) [] := by
 refine G.nat_Bits fun C C2 hC hC2 => ?_
 have hn := h.cn
 refine nx ?_
 refine ⟨_, hC _ _ _ (trim_good l h.lim h.len), ?_⟩
 have hc := cano_cn (nv l)
 have hv := nv_cn (nv l)
 generalize Ψ .cn (nv l) = z at *
 have hz := hn.len
 refine nx ?_
 refine BrG.split (fun h => ?_) (fun h => ?_)
 ·have h0 : z.length = 0 := by simpa [wz] using h
  have : z = [] := List.eq_nil_of_length_eq_zero h0
  subst this
  refine nx ?_
  rw [← hv]
  rfl
 ·have h0 : z.length ≠ 0 := by simpa [wz] using h
  obtain ⟨v, hg⟩ : ∃ v, z[z.length - 1]? = some v := ⟨_, List.getElem?_eq_getElem (by omega)⟩
  refine nx ?_
  refine idx_lims (z.length - 1) v (wrap_pred (by omega) (by omega)) hg rfl ?_
  refine nx ?_
  have hlt := lim_get hn.lim hg
  refine ⟨_, hC _ _ _ (lead32_good v hlt), ?_⟩
  refine nx ?_
  have hv0 : v ≠ 0 := hc v (by rw [List.getLast?_eq_getElem?]; exact hg)
  have hb : bl v ≤ 32 := bl_le.2 hlt
  rw [show (32 : Int) = Ω .ci 32 from rfl, ci_mul, wrap_ci (by omega), wrap_sub (by omega) (by omega)]
  have hs := nv_take_succ hg
  rw [show z.length - 1 + 1 = z.length by omega, List.take_length, hv] at hs
  have h1 : nv (z.take (z.length - 1)) < 4294967296 ^ (z.length - 1) := by
   have := nv_lt (lim_take hn.lim (z.length - 1))
   rwa [List.length_take, Nat.min_eq_left (by omega)] at this
  have hM : 4294967296 ^ (z.length - 1) = 2 ^ (32 * (z.length - 1)) := by rw [Nat.pow_mul]
  rw [hM] at hs h1
  have hdiv : nv l / 2 ^ (32 * (z.length - 1)) = v := by
   rw [hs, Nat.add_mul_div_left _ _ (Nat.pow_pos (by omega)), Nat.div_eq_of_lt h1, Nat.zero_add]
  have hge : 2 ^ (32 * (z.length - 1)) ≤ nv l := by
   rw [hs]
   have := Nat.mul_le_mul_left (2 ^ (32 * (z.length - 1))) (show 1 ≤ v by omega)
   omega
  rw [bl_div hge, hdiv]
  refine congrArg (fun n => V.d (D.i .i64 (Ω .ci n))) ?_
  omega
end Go.K.S
end
section
namespace Go.K
theorem mul_step {M X zv zk c t b yk Yk Z0 : Nat} (ht : t = X * yk + zk + c) (h : zv + M * c = Z0 + b * X * Yk) {nz : Nat} (hz : nz + M * zk = zv + M * (t % 4294967296)) (hM : ∃ B', M = b * B') {B' : Nat} (hB : M = b * B') :
  nz + M * 4294967296 * (t / 4294967296) = Z0 + b * X * (Yk + B' * yk) := by
 have h1 := Nat.mod_add_div t 4294967296
 have h2 : M * (t % 4294967296) + M * 4294967296 * (t / 4294967296) = M * t := by
  rw [Nat.mul_assoc, ← Nat.mul_add, h1]
 have h3 : M * t = M * (X * yk) + M * zk + M * c := by rw [ht, Nat.mul_add, Nat.mul_add]
 have h4 : b * X * (Yk + B' * yk) = b * X * Yk + M * (X * yk) := by
  rw [Nat.mul_add, hB]
  congr 1
  rw [Nat.mul_assoc, Nat.mul_assoc]
  congr 1
  rw [← Nat.mul_assoc, ← Nat.mul_assoc, Nat.mul_comm X B']
 rw [h4]
 omega
theorem mul_fits {x y z c : Nat} (hx : x < 4294967296) (hy : y < 4294967296) (hz : z < 4294967296) (hc : c < 4294967296) : x * y + z + c < 18446744073709551616 := by
 have := Nat.mul_le_mul (show x ≤ 4294967295 by omega) (show y ≤ 4294967295 by omega)
 omega
end Go.K
namespace Go.K.S
open Go Go.K
theorem mul_good (a b : List Nat) (ha : N a) (hb : N b) (hal : a.length < 274877906944) (hbl : b.length < 274877906944) : Good P F.nat_Mul [.d (dN Ψ a), .d (dN Ψ b)] [] (.d (dN Ψ (Ψ .cn (nv a * nv b)))) [] := by
 refine G.nat_Mul fun C C2 hC hC2 => ?_
 refine nx ?_
 refine ⟨_, hC _ _ _ (trim_good a ha.lim ha.len), ?_⟩
 refine nx ?_
 refine ⟨_, hC _ _ _ (trim_good b hb.lim hb.len), ?_⟩
 have hpn := ha.cn.lim
 have hqn := hb.cn.lim
 have hpl := Nat.lt_of_le_of_lt (len_cn_nv ha.lim) hal
 have hql := Nat.lt_of_le_of_lt (len_cn_nv hb.lim) hbl
 have hva := nv_cn (nv a)
 have hvb := nv_cn (nv b)
 generalize Ψ .cn (nv a) = p at *
 generalize Ψ .cn (nv b) = q at *
 refine nx ?_
 rw [wrap_add (by omega)]
 refine ⟨ci_nonneg _, Int.le_refl _, by simp only [wz]; omega, by simp only [wz]; omega, ?_⟩
 refine LoopG.intro (σ := Nat × List Nat) [1, 5, 22, 23, 24] [1050]
  (fun s => [.d (dN Ψ q), .own 1050 1, .d (dN Ψ p), .d (.i .i64 (Ω .ci p.length)), .d (.i .i64 (Ω .ci s.1))])
  (fun s => [.row true T.uint32 1 (Ψ .lims s.2)])
  (fun s => s.1 ≤ p.length ∧ s.2.length = p.length + q.length ∧ lim s.2 ∧ nv (s.2.take (s.1 + q.length)) = nv (p.take s.1) * nv q)
  (fun s => p.length - s.1) (0, List.replicate (p.length + q.length) 0) [1205] ⟨Nat.zero_le _, by simp, lim_rep _, by simp [nv_rep]⟩ ⟨rfl, rfl, ?_⟩ ?_
 ·refine Eq.trans (b := [.row true T.uint32 1 _]) rfl ?_
  rw [← srep_lims]
  rfl
 rintro ⟨i, z⟩ ⟨hi, hzl, hzn, he⟩
 simp only at hi hzl hzn he
 refine nx ?_
 refine BrG.split (fun h => ?_) (fun h => ?_)
 ·have hi2 : i < p.length := by have := h; simp only [wz] at this; omega
  obtain ⟨u, hu⟩ : ∃ u, p[i]? = some u := ⟨_, List.getElem?_eq_getElem hi2⟩
  have hul := lim_get hpn hu
  refine nx ?_
  refine idx_lims i u rfl hu rfl ?_
  refine nx ?_
  refine LoopG.intro (σ := Nat × List Nat × Nat) [1, 5, 6, 7, 8, 22, 23, 24, 29, 30, 31] [1051]
   (fun s => [.d (dN Ψ q), .own 1051 1, .d (.i .i64 (Ω .ci i)), .d (.i .u32 (Ω .ci u)), .d (.i .u64 (Ω .ci s.2.2)), .d (dN Ψ p), .d (.i .i64 (Ω .ci p.length)), .d (.i .i64 (Ω .ci i)), .d (dN Ψ q), .d (.i .i64 (Ω .ci q.length)), .d (.i .i64 (Ω .ci s.1))])
   (fun s => [.row true T.uint32 1 (Ψ .lims s.2.1)])
   (fun s => s.1 ≤ q.length ∧ s.2.1.length = p.length + q.length ∧ lim s.2.1 ∧ s.2.2 < 4294967296 ∧ nv (s.2.1.take (i + q.length)) + 4294967296 ^ (i + s.1) * s.2.2 = nv (z.take (i + q.length)) + 4294967296 ^ i * u * nv (q.take s.1))
   (fun s => q.length - s.1) (0, z, 0) [1050] ⟨Nat.zero_le _, hzl, hzn, by simp only; omega, by simp⟩ ⟨rfl, rfl, rfl⟩ ?_
  rintro ⟨k, w, c⟩ ⟨hk, hwl, hwn, hc, hw⟩
  simp only at hk hwl hwn hc hw
  refine nx ?_
  refine BrG.split (fun h => ?_) (fun h => ?_)
  ·have hk2 : k < q.length := by have := h; simp only [wz] at this; omega
   obtain ⟨v, hv⟩ : ∃ v, q[k]? = some v := ⟨_, List.getElem?_eq_getElem hk2⟩
   obtain ⟨o, ho⟩ : ∃ o, w[i + k]? = some o := ⟨_, List.getElem?_eq_getElem (by omega)⟩
   have hvl := lim_get hqn hv
   have hol := lim_get hwn ho
   refine nx ?_
   refine idx_lims k v rfl hv rfl ?_
   refine nx ?_
   have hix : Ω .wrap .i64 (Ω .ci i + Ω .ci k) = Ω .ci (i + k) := wrap_add (by omega)
   refine own_lims (i + k) o hix ho ?_ ?_ ?_
   ·exact Nat.le_refl _
   ·exact rfl
   refine nx ?_
   rw [hix, wrapu64_ci, wrapu64_ci, wrapu64_ci, ci_mul, wrapu64_ci, ci_add, wrapu64_ci, ci_add, wrapu64_ci]
   have hfit := mul_fits hul hvl hol hc
   have ht : ((u % 18446744073709551616 * (v % 18446744073709551616) % 18446744073709551616 + o % 18446744073709551616) % 18446744073709551616 + c) % 18446744073709551616 = u * v + o + c := by
    rw [Nat.mod_eq_of_lt (show u < 18446744073709551616 by omega), Nat.mod_eq_of_lt (show v < 18446744073709551616 by omega)]
    omega
   rw [ht]
   refine ⟨ci_nonneg _, by simp only [wz]; omega, by simp only [wz]; omega, (k + 1, w.set (i + k) ((u * v + o + c) % 4294967296), (u * v + o + c) / 4294967296), [1051], ⟨hk2, by simp [hwl], lim_set hwn _ (by omega), by simp only; omega, ?_⟩, by simp only; omega, rfl, ?_, ?_⟩
   ·simp only
    rw [List.take_set, nv_take_succ hv]
    have ho' : (w.take (i + q.length))[i + k]? = some o := by rw [List.getElem?_take, if_pos (by omega)]; exact ho
    have hz := nv_set ho' ((u * v + o + c) % 4294967296)
    have := mul_step (b := 4294967296 ^ i) (B' := 4294967296 ^ k) (M := 4294967296 ^ (i + k)) rfl hw hz ⟨_, Nat.pow_add _ _ _⟩ (Nat.pow_add _ _ _)
    rw [show i + (k + 1) = (i + k) + 1 by omega, Nat.pow_succ]
    exact this
   ·refine Eq.trans (b := [.d (dN Ψ q), .own 1051 1, .d (.i .i64 (Ω .ci i)), .d (.i .u32 (Ω .ci u)), .d (.i .u64 _), .d (dN Ψ p), .d (.i .i64 (Ω .ci p.length)), .d (.i .i64 (Ω .ci i)), .d (dN Ψ q), .d (.i .i64 (Ω .ci q.length)), .d (.i .i64 _)]) rfl ?_
    rw [wrap_succ (by omega), ishr32]
   ·refine Eq.trans (b := [.row true T.uint32 1 _]) rfl ?_
    rw [tn_ci, wrapu32_ci, sset_lims]
  ·have hk2 : k = q.length := by have := h; simp only [wz] at this; omega
   subst hk2
   refine nx ?_
   rw [wrap_add (by omega)]
   rw [List.take_length] at hw
   obtain ⟨o, ho⟩ : ∃ o, w[i + q.length]? = some o := ⟨_, List.getElem?_eq_getElem (by omega)⟩
   refine ⟨ci_nonneg _, by simp only [wz]; omega, by simp only [wz]; omega, (i + 1, w.set (i + q.length) c), [1051], ⟨hi2, by simp [hwl], lim_set hwn _ hc, ?_⟩, by simp only; omega, rfl, ?_, ?_⟩
   ·simp only
    have ho' : (w.set (i + q.length) c)[i + q.length]? = some c := by
     have := (List.getElem?_eq_some_iff.1 ho).1
     simp [this]
    rw [show i + 1 + q.length = (i + q.length) + 1 by omega, nv_take_succ ho', List.take_set_of_le (Nat.le_refl _), hw, he, nv_take_succ hu, Nat.add_mul]
   ·refine Eq.trans (b := [.d (dN Ψ q), .own 1050 1, .d (dN Ψ p), .d (.i .i64 (Ω .ci p.length)), .d (.i .i64 _)]) rfl ?_
    rw [wrap_succ (by omega)]
   ·refine Eq.trans (b := [.row true T.uint32 1 _]) rfl ?_
    rw [tn_ci, wrapu32_ci, Nat.mod_eq_of_lt hc, sset_lims]
 ·have hi2 : i = p.length := by have := h; simp only [wz] at this; omega
  subst hi2
  rw [List.take_length, List.take_of_length_le (by omega)] at he
  have hg := trim_good z hzn (by omega)
  rw [he, hva, hvb] at hg
  refine nx ?_
  refine ⟨_, hC _ _ _ hg, ?_⟩
  exact nx trivial
end Go.K.S
end
section
namespace Go.K.S
open Go Go.K
theorem div32_good (hi lo y : Nat) (h : hi < y) (hy : y < 4294967296) (hl : lo < 4294967296) :
  Good P F.math_bits_Div32 [.d (.i .u32 (Ω .ci hi)), .d (.i .u32 (Ω .ci lo)), .d (.i .u32 (Ω .ci y))] []
   (.tup [.d (.i .u32 (Ω .ci ((hi * 4294967296 + lo) / y))), .d (.i .u32 (Ω .ci ((hi * 4294967296 + lo) % y)))]) [] := by
 refine G.math_bits_Div32 fun C C2 hC hC2 => ?_
 refine nx ?_
 refine BrG.split (fun g => ?_) (fun g => ?_)
 ·refine nx ?_
  refine BrG.split (fun g => ?_) (fun g => ?_)
  ·have := g; simp only [wz] at this; omega
  ·refine nx ?_
   have e : Ω .ior .u64 (Ω .ishl .u64 (Ω .wrap .u64 (Ω .ci hi)) 32) (Ω .wrap .u64 (Ω .ci lo)) = Ω .ci (hi * 4294967296 + lo) := by
    rw [wrapu64_ci, wrapu64_ci, Nat.mod_eq_of_lt (by omega), Nat.mod_eq_of_lt (by omega), ishl32, wrapu64_ci, Nat.mod_eq_of_lt (by omega), ior64_ci (by omega) (by omega), or_shl _ hl]
   have ey : Ω .wrap .u64 (Ω .ci y) = Ω .ci y := by rw [wrapu64_ci, Nat.mod_eq_of_lt (by omega)]
   have hq : (hi * 4294967296 + lo) / y < 4294967296 := by
    rw [Nat.div_lt_iff_lt_mul (by omega)]
    have := Nat.mul_le_mul_right 4294967296 (show hi + 1 ≤ y by omega)
    rw [Nat.add_mul, Nat.mul_comm y] at this
    omega
   have hr : (hi * 4294967296 + lo) % y < y := Nat.mod_lt _ (by omega)
   rw [e, ey]
   refine ⟨by simp only [wz]; omega, ?_⟩
   rw [tdiv_ci, tmod_ci, wrapu64_ci, Nat.mod_eq_of_lt (by omega), wrapu32_ci, Nat.mod_eq_of_lt hq, wrapu32_ci, Nat.mod_eq_of_lt (a := (hi * 4294967296 + lo) % y) (by omega)]
   exact ⟨by simp only [wz]; omega, rfl⟩
 ·have : Ω .ci y = 0 := by have := g; simp only [wz] at this ⊢; omega
  simp only [wz] at this; omega
theorem small_good (x : List Nat) (b : Nat) (hx : N x) (hb0 : 0 < b) (hb : b < 4294967296) : Good P F.nat_small [.d (dN Ψ x), .d (.i .u32 (Ω .ci b))] [] (.tup [.d (dN Ψ (Ψ .cn (nv x / b))), .d (dN Ψ (Ψ .cn (nv x % b)))]) [] := by
 refine G.nat_small fun C C2 hC hC2 => ?_
 have hxl := hx.len
 refine nx ?_
 refine ⟨ci_nonneg _, Int.le_refl _, by simp only [wz]; omega, by simp only [wz]; omega, ?_⟩
 refine LoopG.intro (σ := Nat × List Nat × Nat) [0, 1, 6, 7, 8] [1050]
  (fun s => [.d (dN Ψ x), .d (.i .u32 (Ω .ci b)), .own 1050 1, .d (.i .u32 (Ω .ci s.2.2)), .d (.i .i64 (Ω .wrap .i64 (Ω .ci s.1 - 1)))])
  (fun s => [.row true T.uint32 1 (Ψ .lims s.2.1)])
  (fun s => s.1 ≤ x.length ∧ s.2.1.length = x.length ∧ lim s.2.1 ∧ s.2.2 < b ∧ nv (s.2.1.drop s.1) * b + s.2.2 = nv (x.drop s.1))
  (fun s => s.1) (x.length, List.replicate x.length 0, 0) [1102] ⟨Nat.le_refl _, by simp, lim_rep _, hb0, by simp⟩ ⟨rfl, ?_, ?_⟩ ?_
 ·refine Eq.trans (b := [.d (dN Ψ x), .d (.i .u32 (Ω .ci b)), .own 1050 1, .d (.i .u32 0), .d (.i .i64 _)]) rfl ?_
  rfl
 ·refine Eq.trans (b := [.row true T.uint32 1 _]) rfl ?_
  rw [← srep_lims]
 rintro ⟨k, z, r⟩ ⟨hk, hzl, hzn, hr, he⟩
 simp only at hk hzl hzn hr he
 refine nx ?_
 refine BrG.split (fun h => ?_) (fun h => ?_)
 ·rw [wrap64 (by simp only [wz]; omega) (by simp only [wz]; omega)] at h
  have hk0 : 0 < k := by have := h; simp only [wz] at this; omega
  have hk1 : Ω .wrap .i64 (Ω .ci k - 1) = Ω .ci (k - 1) := wrap_pred hk0 (by omega)
  obtain ⟨u, hu⟩ : ∃ u, x[k - 1]? = some u := ⟨_, List.getElem?_eq_getElem (by omega)⟩
  have hul := lim_get hx.lim hu
  refine nx ?_
  refine idx_lims (k - 1) u hk1 hu rfl ?_
  refine nx ?_
  refine ⟨_, hC _ _ _ (div32_good r u b hr hb hul), ?_⟩
  refine nx ?_
  have hqq : (r * 4294967296 + u) / b < 4294967296 := by
   rw [Nat.div_lt_iff_lt_mul (by omega)]
   have := Nat.mul_le_mul_right 4294967296 (show r + 1 ≤ b by omega)
   rw [Nat.add_mul, Nat.mul_comm b] at this
   omega
  rw [hk1]
  refine ⟨ci_nonneg _, by simp only [wz]; omega, by simp only [wz]; omega, (k - 1, z.set (k - 1) ((r * 4294967296 + u) / b), (r * 4294967296 + u) % b), [1050], ⟨by simp only; omega, by simp [hzl], lim_set hzn _ hqq, Nat.mod_lt _ hb0, ?_⟩, by simp only; omega, rfl, ?_, ?_⟩
  ·simp only
   rw [nv_set_drop (by omega), nv_drop hu, show k - 1 + 1 = k by omega]
   exact small_step he
  ·refine Eq.trans (b := [.d (dN Ψ x), .d (.i .u32 (Ω .ci b)), .own 1050 1, .d (.i .u32 (Ω .ci _)), .d (.i .i64 _)]) rfl ?_
   rfl
  ·refine Eq.trans (b := [.row true T.uint32 1 _]) rfl ?_
   rw [tn_ci, sset_lims]
 ·rw [wrap64 (by simp only [wz]; omega) (by simp only [wz]; omega)] at h
  have hk0 : k = 0 := by have := h; simp only [wz] at this; omega
  subst hk0
  rw [List.drop_zero, List.drop_zero] at he
  obtain ⟨e1, e2⟩ := divmod_unique he hr
  have g1 := trim_good z hzn (by omega)
  have g2 := trim_good [r] (by simp [lim_cons, lim_nil]; omega) (by simp)
  rw [← e1] at g1
  rw [show nv [r] = nv x % b by simp; exact e2.symm] at g2
  refine nx ?_
  refine ⟨_, hC _ _ _ g1, ?_⟩
  refine nx ?_
  refine ⟨_, hC _ _ _ g2, ?_⟩
  exact nx trivial
end Go.K.S
end
section
namespace Go.K
open Go
theorem tmod32 (n : Nat) : Ω .tmod (Ω .ci n) 32 = Ω .ci (n % 32) := tmod_ci n 32
theorem tdiv32 (n : Nat) : (Ω .ci n).tdiv 32 = Ω .ci (n / 32) := tdiv_ci n 32
theorem shl_limb {t r c : Nat} (ht : t < 4294967296) (hr : r < 32) (hc : c < 2 ^ r) :
  ((t * 2 ^ r) % 4294967296 ||| c) + 4294967296 * (t / 2 ^ (32 - r)) = t * 2 ^ r + c ∧ ((t * 2 ^ r) % 4294967296 ||| c) < 4294967296 ∧ t / 2 ^ (32 - r) < 2 ^ r := by
 have hB : 4294967296 = 2 ^ r * 2 ^ (32 - r) := by rw [← Nat.pow_add, show r + (32 - r) = 32 by omega]
 have h2 : (t * 2 ^ r) % 4294967296 = 2 ^ r * (t % 2 ^ (32 - r)) := by rw [hB, Nat.mul_comm t, Nat.mul_mod_mul_left]
 have hd := Nat.mod_add_div t (2 ^ (32 - r))
 have hm : t % 2 ^ (32 - r) < 2 ^ (32 - r) := Nat.mod_lt _ (Nat.pow_pos (by omega))
 rw [h2, or_shl' hc]
 refine ⟨?_, ?_, ?_⟩
 ·have : t * 2 ^ r = 2 ^ r * (t % 2 ^ (32 - r)) + 4294967296 * (t / 2 ^ (32 - r)) := by
   rw [hB, Nat.mul_assoc, ← Nat.mul_add, hd, Nat.mul_comm]
  rw [this]; omega
 ·have := Nat.mul_le_mul_left (2 ^ r) (show t % 2 ^ (32 - r) + 1 ≤ 2 ^ (32 - r) by omega)
  rw [Nat.mul_add, ← hB] at this
  omega
 ·rw [Nat.div_lt_iff_lt_mul (Nat.pow_pos (by omega)), ← hB]; exact ht
theorem shl_step {zv W M c X t s c' R : Nat} (h : zv + W * M * c = X * (W * R)) (hs : s + 4294967296 * c' = t * R + c) : zv + W * M * s + W * M * 4294967296 * c' = (X + M * t) * (W * R) := by
 have h2 : W * M * (s + 4294967296 * c') = W * M * (t * R + c) := by rw [hs]
 rw [Nat.mul_add, Nat.mul_add, ← Nat.mul_assoc] at h2
 have h3 : (X + M * t) * (W * R) = X * (W * R) + W * M * (t * R) := by
  rw [Nat.add_mul]; congr 1
  rw [Nat.mul_comm M t]; ac_rfl
 rw [h3]
 omega
end Go.K
namespace Go.K.S
open Go Go.K
theorem shl_good (x : List Nat) (n : Nat) (hx : N x) (hxs : x.length < 549755813888) (hn : n ≤ 65536) : Good P F.nat_Shl [.d (dN Ψ x), .d (.i .i64 (Ω .ci n))] [] (.tup [.d (dN Ψ (Ψ .cn (nv x * 2 ^ n))), .d (.b true)]) [] := by
 refine G.nat_Shl fun C C2 hC hC2 => ?_
 have hr : n % 32 < 32 := Nat.mod_lt _ (by omega)
 have hpow : 2 ^ n = 4294967296 ^ (n / 32) * 2 ^ (n % 32) := by
  rw [show 4294967296 = 2 ^ 32 from rfl, ← Nat.pow_mul, ← Nat.pow_add]
  congr 1; omega
 refine nx ?_
 refine BrG.split (fun g => ?_) (fun g => ?_)
 ·have := g; simp only [wz] at this; omega
 refine nx ?_
 refine BrG.split (fun g => ?_) (fun g => ?_)
 ·have := g; simp only [wz] at this; omega
 refine nx ?_
 rw [tdiv32, wrap_ci (by omega)]
 refine ⟨ci_nonneg _, Int.le_refl _, by simp only [wz]; omega, by simp only [wz]; omega, ?_⟩
 refine ⟨_, hC _ _ _ (trim_good x hx.lim hx.len), ?_⟩
 have hpn := hx.cn.lim
 have hpl := Nat.lt_of_le_of_lt (len_cn_nv hx.lim) hxs
 have hv := nv_cn (nv x)
 generalize Ψ .cn (nv x) = p at *
 refine nx ?_
 refine LoopG.intro (σ := Nat × List Nat × Nat) [1, 6, 7, 20, 21, 22] [1050]
  (fun s => [.d (.i .i64 (Ω .ci n)), .own 1050 1, .d (.i .u32 (Ω .ci s.2.2)), .d (dN Ψ p), .d (.i .i64 (Ω .ci p.length)), .d (.i .i64 (Ω .ci s.1))])
  (fun s => [.row true T.uint32 1 (Ψ .lims s.2.1)])
  (fun s => s.1 ≤ p.length ∧ s.2.1.length = n / 32 + s.1 ∧ lim s.2.1 ∧ s.2.2 < 2 ^ (n % 32) ∧ nv s.2.1 + 4294967296 ^ (n / 32) * 4294967296 ^ s.1 * s.2.2 = nv (p.take s.1) * (4294967296 ^ (n / 32) * 2 ^ (n % 32)))
  (fun s => p.length - s.1) (0, List.replicate (n / 32) 0, 0) [1302] ⟨Nat.zero_le _, by simp, lim_rep _, Nat.pow_pos (by omega), by simp [nv_rep]⟩ ⟨rfl, rfl, ?_⟩ ?_
 ·refine Eq.trans (b := [.row true T.uint32 1 _]) rfl ?_
  rw [← srep_lims]
 rintro ⟨i, z, c⟩ ⟨hi, hzl, hzn, hc, he⟩
 simp only at hi hzl hzn hc he
 refine nx ?_
 refine BrG.split (fun h => ?_) (fun h => ?_)
 ·have hi2 : i < p.length := by have := h; simp only [wz] at this; omega
  obtain ⟨t, ht⟩ : ∃ t, p[i]? = some t := ⟨_, List.getElem?_eq_getElem hi2⟩
  have htl := lim_get hpn ht
  refine nx ?_
  refine idx_lims i t rfl ht rfl ?_
  refine nx ?_
  rw [tmod32]
  obtain ⟨q1, q2, q3⟩ := shl_limb htl hr hc
  have hcl : 2 ^ (n % 32) ≤ 4294967296 := Nat.pow_le_pow_right (n := 2) (by omega) (show n % 32 ≤ 32 by omega)
  have e1 : Ω .ior .u32 (Ω .ishl .u32 (Ω .ci t) (Ω .ci (n % 32))) (Ω .ci c) = Ω .ci ((t * 2 ^ (n % 32)) % 4294967296 ||| c) := by
   rw [ishl_ci _ _ _ (by show n % 32 ≤ 32; omega), wrapu32_ci, ior_ci (Nat.mod_lt _ (by omega)) (by omega)]
  have e2 : Ω .wrap .i64 (32 - Ω .ci (n % 32)) = Ω .ci (32 - n % 32) := wrap_sub (a := 32) (by omega) (by omega)
  have e3 : Ω .wrap .u32 (Ω .ishr .u64 (Ω .wrap .u64 (Ω .ci t)) (Ω .ci (32 - n % 32))) = Ω .ci (t / 2 ^ (32 - n % 32)) := by
   rw [wrapu64_ci, Nat.mod_eq_of_lt (by omega), ishr_ci _ _ _ (by show 32 - n % 32 ≤ 64; omega), wrapu32_ci, Nat.mod_eq_of_lt]
   exact Nat.lt_of_lt_of_le q3 hcl
  rw [e1, e2]
  refine ⟨ci_nonneg _, cells_one _ _, (by simp only [wz]; omega), ci_nonneg _, (i + 1, z ++ [(t * 2 ^ (n % 32)) % 4294967296 ||| c], t / 2 ^ (32 - n % 32)), [1808], ⟨hi2, by simp [hzl]; omega, lim_append.2 ⟨hzn, by simp [lim_cons, lim_nil]; exact q2⟩, q3, ?_⟩, by simp only; omega, rfl, ?_, ?_⟩
  ·simp only
   rw [nv_snoc, hzl, nv_take_succ ht, Nat.pow_succ, Nat.pow_add, ← Nat.mul_assoc]
   exact shl_step he q1
  ·refine Eq.trans (b := [.d (.i .i64 (Ω .ci n)), .own 1050 1, .d (.i .u32 _), .d (dN Ψ p), .d (.i .i64 (Ω .ci p.length)), .d (.i .i64 _)]) rfl ?_
   rw [wrap_succ (by omega), e3]
  ·refine Eq.trans (b := [.row true T.uint32 1 _]) rfl ?_
   rw [scat_snoc]
 ·have hi2 : i = p.length := by have := h; simp only [wz] at this; omega
  subst hi2
  have hcl : 2 ^ (n % 32) ≤ 4294967296 := Nat.pow_le_pow_right (n := 2) (by omega) (show n % 32 ≤ 32 by omega)
  rw [List.take_length, ← hpow, hv, ← Nat.pow_add, ← hzl, ← nv_snoc] at he
  have hg := trim_good (z ++ [c]) (lim_append.2 ⟨hzn, by simp [lim_cons, lim_nil]; omega⟩) (by simp; omega)
  rw [he] at hg
  refine nx ?_
  refine ⟨cells_one _ _, (by simp only [wz]; omega), ?_⟩
  rw [scat_snoc]
  refine nx ?_
  refine ⟨_, hC _ _ _ hg, ?_⟩
  exact nx trivial
end Go.K.S
end
section
namespace Go.K
open Go
theorem shr_limb {x : List Nat} {i u : Nat} (hx : lim x) (hu : x[i]? = some u) {n : Nat} (hn : n < 32) :
  (x.getD (i + 1) 0 * 4294967296 + u) / 2 ^ n % 4294967296 = nv x / 2 ^ n / 4294967296 ^ i % 4294967296 := by
 have hi := (List.getElem?_eq_some_iff.1 hu).1
 have h1 : nv x / 4294967296 ^ i = nv (x.drop i) := by
  rw [nv_split x i (by omega), Nat.add_mul_div_left _ _ (Nat.pow_pos (by omega)), Nat.div_eq_of_lt, Nat.zero_add]
  have := nv_lt (lim_take hx i)
  rwa [List.length_take, Nat.min_eq_left (by omega)] at this
 have h2 : nv (x.drop (i + 1)) = x.getD (i + 1) 0 + 4294967296 * nv (x.drop (i + 2)) := by
  rcases Nat.lt_or_ge (i + 1) x.length with q | q
  ·have : x[i + 1]? = some x[i + 1] := List.getElem?_eq_getElem q
   rw [nv_drop this]; simp [List.getD, q]
  ·rw [List.drop_of_length_le q, List.drop_of_length_le (by omega)]; simp [List.getD, q]
 rw [Nat.div_div_eq_div_mul, Nat.mul_comm (2 ^ n), ← Nat.div_div_eq_div_mul, h1, nv_drop hu, h2]
 generalize x.getD (i + 1) 0 = v
 generalize nv (x.drop (i + 2)) = H
 have e : u + 4294967296 * (v + 4294967296 * H) = (v * 4294967296 + u) + 2 ^ n * (4294967296 * (2 ^ (32 - n) * H)) := by
  have : 2 ^ n * (4294967296 * (2 ^ (32 - n) * H)) = 4294967296 * (4294967296 * H) := by
   rw [Nat.mul_left_comm, ← Nat.mul_assoc (2 ^ n), ← Nat.pow_add, show n + (32 - n) = 32 by omega]
  rw [this]; omega
 rw [e, Nat.add_mul_div_left _ _ (Nat.pow_pos (by omega)), Nat.add_mul_mod_self_left]
end Go.K
namespace Go.K.S
open Go Go.K
theorem shr_good (x : List Nat) (n : Nat) (hx : N x) (hn : n < 32) : Good P F.nat_shr [.d (dN Ψ x), .d (.i .i64 (Ω .ci n))] [] (.d (dN Ψ (Ψ .cn (nv x / 2 ^ n)))) [] := by
 refine G.nat_shr fun C C2 hC hC2 => ?_
 have hxl := hx.len
 refine nx ?_
 refine ⟨ci_nonneg _, Int.le_refl _, by simp only [wz]; omega, by simp only [wz]; omega, ?_⟩
 refine LoopG.intro (σ := Nat × List Nat) [0, 1, 5, 12, 13, 14] [1050]
  (fun s => [.d (dN Ψ x), .d (.i .i64 (Ω .ci n)), .own 1050 1, .d (dN Ψ x), .d (.i .i64 (Ω .ci x.length)), .d (.i .i64 (Ω .ci s.1))])
  (fun s => [.row true T.uint32 1 (Ψ .lims s.2)])
  (fun s => s.1 ≤ x.length ∧ s.2.length = x.length ∧ lim s.2 ∧ nv (s.2.take s.1) = nv x / 2 ^ n % 4294967296 ^ s.1)
  (fun s => x.length - s.1) (0, List.replicate x.length 0) [1102] ⟨Nat.zero_le _, by simp, lim_rep _, by simp [Nat.mod_one]⟩ ⟨rfl, rfl, ?_⟩ ?_
 ·refine Eq.trans (b := [.row true T.uint32 1 _]) rfl ?_
  rw [← srep_lims]
 rintro ⟨i, z⟩ ⟨hi, hzl, hzn, he⟩
 simp only at hi hzl hzn he
 refine nx ?_
 refine BrG.split (fun h => ?_) (fun h => ?_)
 ·have hi2 : i < x.length := by have := h; simp only [wz] at this; omega
  obtain ⟨u, hu⟩ : ∃ u, x[i]? = some u := ⟨_, List.getElem?_eq_getElem hi2⟩
  have hul := lim_get hx.lim hu
  have hd := shr_limb hx.lim hu hn
  have hgl := getD_lt hx.lim (i + 1)
  have fin : ∀ v, v = x.getD (i + 1) 0 → Ω .wrap .u32 (Ω .ishr .u64 (Ω .ior .u64 (Ω .ishl .u64 (Ω .wrap .u64 (Ω .ci v)) 32) (Ω .wrap .u64 (Ω .ci u))) (Ω .ci n)) = Ω .ci ((v * 4294967296 + u) / 2 ^ n % 4294967296) ∧
    ((i + 1 ≤ x.length ∧ (z.set i ((v * 4294967296 + u) / 2 ^ n % 4294967296)).length = x.length ∧ lim (z.set i ((v * 4294967296 + u) / 2 ^ n % 4294967296)) ∧ nv ((z.set i ((v * 4294967296 + u) / 2 ^ n % 4294967296)).take (i + 1)) = nv x / 2 ^ n % 4294967296 ^ (i + 1))) := fun v hv => by
   have hvl : v < 4294967296 := hv ▸ hgl
   refine ⟨?_, hi2, by simp [hzl], lim_set hzn _ (Nat.mod_lt _ (by omega)), ?_⟩
   ·rw [wrapu64_ci, wrapu64_ci, Nat.mod_eq_of_lt (by omega), Nat.mod_eq_of_lt (by omega), ishl32, wrapu64_ci, Nat.mod_eq_of_lt (by omega), ior64_ci (by omega) (by omega), or_shl _ hul, ishr_ci _ _ _ (by show n ≤ 64; omega), wrapu32_ci]
   ·have e3 : (z.set i ((v * 4294967296 + u) / 2 ^ n % 4294967296))[i]? = some ((v * 4294967296 + u) / 2 ^ n % 4294967296) := by simp [hzl, hi2]
    rw [nv_take_succ e3, List.take_set_of_le (Nat.le_refl _), he, hv, hd, Nat.pow_succ, Nat.mod_mul]
  refine nx ?_
  refine idx_lims i u rfl hu rfl ?_
  refine nx ?_
  refine BrG.split (fun h => ?_) (fun h => ?_)
  ·rw [wrap_succ (by omega)] at h
   have hi3 : i + 1 < x.length := by have := h; simp only [wz] at this; omega
   obtain ⟨v, hv⟩ : ∃ v, x[i + 1]? = some v := ⟨_, List.getElem?_eq_getElem hi3⟩
   obtain ⟨f1, f2⟩ := fin v (by simp [List.getD, hv])
   refine nx ?_
   refine idx_lims (i + 1) v (wrap_succ (by omega)) hv rfl ?_
   refine nx ?_
   refine ⟨ci_nonneg _, ci_nonneg _, by simp only [wz, List.length_set]; omega, by simp only [wz, List.length_set]; omega, (i + 1, z.set i ((v * 4294967296 + u) / 2 ^ n % 4294967296)), [1050], f2, by simp only; omega, rfl, ?_, ?_⟩
   ·refine Eq.trans (b := [.d (dN Ψ x), .d (.i .i64 (Ω .ci n)), .own 1050 1, .d (dN Ψ x), .d (.i .i64 (Ω .ci x.length)), .d (.i .i64 _)]) rfl ?_
    rw [wrap_succ (by omega)]
   ·refine Eq.trans (b := [.row true T.uint32 1 _]) rfl ?_
    rw [f1, sset_lims]
  ·rw [wrap_succ (by omega)] at h
   have hi3 : x.length ≤ i + 1 := by have := h; simp only [wz] at this; omega
   obtain ⟨f1, f2⟩ := fin 0 (by simp [List.getD, hi3])
   refine nx ?_
   refine ⟨ci_nonneg _, ci_nonneg _, by simp only [wz, List.length_set]; omega, by simp only [wz, List.length_set]; omega, (i + 1, z.set i ((0 * 4294967296 + u) / 2 ^ n % 4294967296)), [1050], f2, by simp only; omega, rfl, ?_, ?_⟩
   ·refine Eq.trans (b := [.d (dN Ψ x), .d (.i .i64 (Ω .ci n)), .own 1050 1, .d (dN Ψ x), .d (.i .i64 (Ω .ci x.length)), .d (.i .i64 _)]) rfl ?_
    rw [wrap_succ (by omega)]
   ·refine Eq.trans (b := [.row true T.uint32 1 _]) rfl ?_
    rw [show Ω .wrap .u64 0 = Ω .wrap .u64 (Ω .ci 0) from rfl, f1, sset_lims]
 ·have hi2 : i = x.length := by have := h; simp only [wz] at this; omega
  subst hi2
  rw [List.take_of_length_le (by omega), Nat.mod_eq_of_lt (Nat.lt_of_le_of_lt (Nat.div_le_self _ _) (nv_lt hx.lim))] at he
  have hg := trim_good z hzn (by omega)
  rw [he] at hg
  refine nx ?_
  refine ⟨_, hC _ _ _ hg, ?_⟩
  exact nx trivial
end Go.K.S
end
section
namespace Go.K
open Go
def ln : Nat → Nat → List Nat
 | 0, _ => []
 | k + 1, n => n % 4294967296 :: ln k (n / 4294967296)
theorem ln_eq : ∀ (s : List Nat), lim s → s = ln s.length (nv s)
 | [], _ => rfl
 | x :: s, h => by
  rw [lim_cons] at h
  have ih := ln_eq s h.2
  rw [List.length_cons, nv_cons, ln]
  have e1 : (x + 4294967296 * nv s) % 4294967296 = x := by omega
  have e2 : (x + 4294967296 * nv s) / 4294967296 = nv s := by omega
  rw [e1, e2, ← ih]
theorem len_ln (k n : Nat) : (ln k n).length = k := by
 induction k generalizing n with
 | zero => rfl
 | succ k ih => rw [ln, List.length_cons, ih]
theorem lim_ln (k n : Nat) : lim (ln k n) := by
 induction k generalizing n with
 | zero => exact lim_nil
 | succ k ih => rw [ln, lim_cons]; exact ⟨Nat.mod_lt _ (by omega), ih _⟩
theorem nv_ln {k n : Nat} (h : n < 4294967296 ^ k) : nv (ln k n) = n := by
 induction k generalizing n with
 | zero => simp at h; subst h; rfl
 | succ k ih =>
  rw [ln, nv_cons, ih (by rw [Nat.div_lt_iff_lt_mul (by omega), ← Nat.pow_succ]; exact h)]
  omega
theorem get_mid (P R : List Nat) (a : Nat) {k : Nat} (hk : k = P.length) : (P ++ a :: R)[k]? = some a := by subst hk; simp
theorem set_mid (P R : List Nat) (a x : Nat) {k : Nat} (hk : k = P.length) : (P ++ a :: R).set k x = P ++ x :: R := by subst hk; simp
theorem less_step {M sv t Vk X c bo tt lo c' s W bo' v : Nat} (h : sv + t * Vk = X + M * (c + bo)) (h1 : t * v + c = tt) (h2 : lo + 4294967296 * c' = tt) (h3 : s + lo + bo = W + 4294967296 * bo') :
  sv + M * s + t * (Vk + M * v) = X + M * W + M * 4294967296 * (c' + bo') := by
 have e1 : t * (Vk + M * v) = t * Vk + M * (t * v) := by rw [Nat.mul_add, Nat.mul_left_comm]
 have e2 : M * (s + t * v + c + bo) = M * (W + 4294967296 * (c' + bo')) := by congr 1; omega
 have e3 : M * (s + t * v + c + bo) = M * s + M * (t * v) + M * (c + bo) := by rw [← Nat.mul_add, ← Nat.mul_add]; congr 1; omega
 have e4 : M * (W + 4294967296 * (c' + bo')) = M * W + M * 4294967296 * (c' + bo') := by rw [Nat.mul_add, Nat.mul_assoc]
 rw [e1]
 omega
end Go.K
namespace Go.K.S
open Go Go.K
end Go.K.S
end
section
namespace Go.K.S
open Go Go.K
end Go.K.S
end
section
namespace Go.K.S
open Go Go.K
theorem trim_own (l : List Nat) (hl : lim l) (hb : l.length < 1099511627776) : Good P F.nat_trim [.own 0 1] [.row true T.uint32 1 (Ψ .lims l)] (.own 1 1) [.dead, .row true T.uint32 1 (Ψ .lims (Ψ .cn (nv l)))] := by
 refine G2.nat_trim md (fun C C2 hC hC2 => ?_) (hb := by simp)
 refine nx ?_
 refine LoopG.intro (σ := Nat) [0, 3] [0] (fun n => [.own 0 1, .d (.i .i64 (Ω .ci n))]) (fun _ => [.row true T.uint32 1 (Ψ .lims l)]) (fun n => n ≤ l.length ∧ nv (l.take n) = nv l) (fun n => n) l.length [0] ⟨Nat.le_refl _, by simp⟩ ⟨rfl, rfl, rfl⟩ ?_
 rintro n ⟨hn, he⟩
 refine nx ?_
 refine BrG.split (fun h => ?_) (fun h => ?_)
 ·refine nx ?_
  simp [wz] at h
  obtain ⟨v, hv⟩ : ∃ v, l[n - 1]? = some v := ⟨_, List.getElem?_eq_getElem (by omega)⟩
  refine own_lims (n - 1) v (wrap_pred h (by omega)) hv ?_ ?_ ?_
  ·exact Nat.le_refl _
  ·exact rfl
  refine nx ?_
  have hs := nv_take_succ hv
  have hn1 : n - 1 + 1 = n := by omega
  rw [hn1] at hs
  refine BrG.split (fun h => ?_) (fun h => ?_)
  ·refine nx ?_
   simp [wz] at h
   refine ⟨n - 1, [0], ⟨by omega, by rw [h] at hs; omega⟩, by omega, rfl, ?_, rfl⟩
   rw [← wrap_pred (by omega) (by omega)]; rfl
  ·refine nx ?_
   simp [wz] at h
   have hc := cn_cano _ (lim_take hl n) (by rw [← hn1]; exact cano_take hv h)
   rw [he] at hc
   refine ⟨ci_nonneg _, Int.le_refl _, by simp only [wz]; omega, [1403], rfl, rfl, ?_⟩
   refine Eq.trans (b := [.dead, .row true T.uint32 1 _]) rfl ?_
   rw [ssub_lims', List.drop_zero, hc]
 ·refine nx ?_
  simp [wz] at h
  subst h
  have h0 : nv l = 0 := by rw [← he]; rfl
  refine ⟨ci_nonneg _, Int.le_refl _, by simp only [wz]; omega, [1403], rfl, rfl, ?_⟩
  refine Eq.trans (b := [.dead, .row true T.uint32 1 _]) rfl ?_
  rw [ssub_lims', h0, cn_zero]; rfl
def mdShl : FuncId → Bool := fun g => g == F.nat_trim
theorem shl_own (x : List Nat) (n : Nat) (hx : N x) (hxs : x.length < 549755813888) (hn : n ≤ 65536) : Good P F.nat_Shl [.d (dN Ψ x), .d (.i .i64 (Ω .ci n))] [] (.tup [.own 0 1, .d (.b true)]) [.row true T.uint32 1 (Ψ .lims (Ψ .cn (nv x * 2 ^ n)))] := by
 refine G2.nat_Shl mdShl (fun C C2 hC hC2 => ?_)
 have hr : n % 32 < 32 := Nat.mod_lt _ (by omega)
 have hpow : 2 ^ n = 4294967296 ^ (n / 32) * 2 ^ (n % 32) := by
  rw [show 4294967296 = 2 ^ 32 from rfl, ← Nat.pow_mul, ← Nat.pow_add]
  congr 1; omega
 generalize hres : nv x * 2 ^ n = res
 refine nx ?_
 refine BrG.split (fun g => ?_) (fun g => ?_)
 ·have := g; simp only [wz] at this; omega
 refine nx ?_
 refine BrG.split (fun g => ?_) (fun g => ?_)
 ·have := g; simp only [wz] at this; omega
 refine nx ?_
 rw [tdiv32, wrap_ci (by omega)]
 refine ⟨ci_nonneg _, Int.le_refl _, by simp only [wz]; omega, by simp only [wz]; omega, ?_⟩
 have h0 := trim_good x hx.lim hx.len
 have hpn := hx.cn.lim
 have hpl := Nat.lt_of_le_of_lt (len_cn_nv hx.lim) hxs
 have hv := nv_cn (nv x)
 generalize Ψ .cn (nv x) = p at *
 refine ⟨_, [], hC2 _ _ _ _ _ h0, ?_⟩
 refine nx ?_
 refine LoopG.intro (σ := Nat × List Nat × Nat) [1, 6, 7, 20, 21, 22] [1050]
  (fun s => [.d (.i .i64 (Ω .ci n)), .own 1050 1, .d (.i .u32 (Ω .ci s.2.2)), .d (dN Ψ p), .d (.i .i64 (Ω .ci p.length)), .d (.i .i64 (Ω .ci s.1))])
  (fun s => [.row true T.uint32 1 (Ψ .lims s.2.1)])
  (fun s => s.1 ≤ p.length ∧ s.2.1.length = n / 32 + s.1 ∧ lim s.2.1 ∧ s.2.2 < 2 ^ (n % 32) ∧ nv s.2.1 + 4294967296 ^ (n / 32) * 4294967296 ^ s.1 * s.2.2 = nv (p.take s.1) * (4294967296 ^ (n / 32) * 2 ^ (n % 32)))
  (fun s => p.length - s.1) (0, List.replicate (n / 32) 0, 0) [1302] ⟨Nat.zero_le _, by simp, lim_rep _, Nat.pow_pos (by omega), by simp [nv_rep]⟩ ⟨rfl, rfl, ?_⟩ ?_
 ·refine Eq.trans (b := [.row true T.uint32 1 _]) rfl ?_
  rw [← srep_lims]
 rintro ⟨i, z, c⟩ ⟨hi, hzl, hzn, hc, he⟩
 simp only at hi hzl hzn hc he
 refine nx ?_
 refine BrG.split (fun h => ?_) (fun h => ?_)
 ·have hi2 : i < p.length := by have := h; simp only [wz] at this; omega
  obtain ⟨t, ht⟩ : ∃ t, p[i]? = some t := ⟨_, List.getElem?_eq_getElem hi2⟩
  have htl := lim_get hpn ht
  refine nx ?_
  refine idx_lims i t rfl ht rfl ?_
  refine nx ?_
  rw [tmod32]
  obtain ⟨q1, q2, q3⟩ := shl_limb htl hr hc
  have hcl : 2 ^ (n % 32) ≤ 4294967296 := Nat.pow_le_pow_right (n := 2) (by omega) (show n % 32 ≤ 32 by omega)
  have e1 : Ω .ior .u32 (Ω .ishl .u32 (Ω .ci t) (Ω .ci (n % 32))) (Ω .ci c) = Ω .ci ((t * 2 ^ (n % 32)) % 4294967296 ||| c) := by
   rw [ishl_ci _ _ _ (by show n % 32 ≤ 32; omega), wrapu32_ci, ior_ci (Nat.mod_lt _ (by omega)) (by omega)]
  have e2 : Ω .wrap .i64 (32 - Ω .ci (n % 32)) = Ω .ci (32 - n % 32) := wrap_sub (a := 32) (by omega) (by omega)
  have e3 : Ω .wrap .u32 (Ω .ishr .u64 (Ω .wrap .u64 (Ω .ci t)) (Ω .ci (32 - n % 32))) = Ω .ci (t / 2 ^ (32 - n % 32)) := by
   rw [wrapu64_ci, Nat.mod_eq_of_lt (by omega), ishr_ci _ _ _ (by show 32 - n % 32 ≤ 64; omega), wrapu32_ci, Nat.mod_eq_of_lt]
   exact Nat.lt_of_lt_of_le q3 hcl
  rw [e1, e2]
  refine ⟨ci_nonneg _, cells_one _ _, (by simp only [wz]; omega), ci_nonneg _, (i + 1, z ++ [(t * 2 ^ (n % 32)) % 4294967296 ||| c], t / 2 ^ (32 - n % 32)), [1808], ⟨hi2, by simp [hzl]; omega, lim_append.2 ⟨hzn, by simp [lim_cons, lim_nil]; exact q2⟩, q3, ?_⟩, by simp only; omega, rfl, ?_, ?_⟩
  ·simp only
   rw [nv_snoc, hzl, nv_take_succ ht, Nat.pow_succ, Nat.pow_add, ← Nat.mul_assoc]
   exact shl_step he q1
  ·refine Eq.trans (b := [.d (.i .i64 (Ω .ci n)), .own 1050 1, .d (.i .u32 _), .d (dN Ψ p), .d (.i .i64 (Ω .ci p.length)), .d (.i .i64 _)]) rfl ?_
   rw [wrap_succ (by omega), e3]
  ·refine Eq.trans (b := [.row true T.uint32 1 _]) rfl ?_
   rw [scat_snoc]
 ·have hi2 : i = p.length := by have := h; simp only [wz] at this; omega
  subst hi2
  have hcl : 2 ^ (n % 32) ≤ 4294967296 := Nat.pow_le_pow_right (n := 2) (by omega) (show n % 32 ≤ 32 by omega)
  rw [List.take_length, ← hpow, hv, ← Nat.pow_add, ← hzl, ← nv_snoc, hres] at he
  have hg := trim_own (z ++ [c]) (lim_append.2 ⟨hzn, by simp [lim_cons, lim_nil]; omega⟩) (by simp; omega)
  rw [he] at hg
  refine nx ?_
  refine ⟨cells_one _ _, (by simp only [wz]; omega), ?_⟩
  rw [scat_snoc]
  refine nx ?_
  refine ⟨_, _, hC2 _ _ _ _ _ hg, ?_⟩
  refine nx ?_
  exact ⟨[1016832], rfl, rfl, rfl⟩
end Go.K.S
end
section
namespace Go.K.S
open Go Go.K
theorem less_own (A W Z v : List Nat) (t : Nat) (hW : lim W) (hv : lim v) (hl : (A ++ W ++ Z).length < 1099511627776) (hWl : W.length = v.length + 1) (ht : t < 4294967296) :
   Good P F.nat_less [.ref 0 1 A.length W.length, .own 1 1, .d (.i .u64 (Ω .ci t))] [.row true T.uint32 1 (Ψ .lims (A ++ W ++ Z)), .row true T.uint32 1 (Ψ .lims v)] (.d (.b (decide (nv W < t * nv v))))
    [.row true T.uint32 1 (Ψ .lims (A ++ ln W.length (nv W + (if nv W < t * nv v then 4294967296 ^ W.length else 0) - t * nv v) ++ Z)), .row true T.uint32 1 (Ψ .lims v)] := by
 obtain ⟨L0, hL0⟩ : ∃ L, L = A ++ W ++ Z := ⟨_, rfl⟩
 have hLl : L0.length = A.length + W.length + Z.length := by rw [hL0]; simp; omega
 rw [← hL0] at hl ⊢
 obtain ⟨n, hn⟩ : ∃ n, n = A.length := ⟨_, rfl⟩
 obtain ⟨m, hm⟩ : ∃ m, m = W.length := ⟨_, rfl⟩
 rw [← hn, ← hm]
 refine G.nat_less (fun C C2 hC hC2 => ?_) (hb := by simp)
 generalize hR : Ψ .lims (A ++ ln m (nv W + (if nv W < t * nv v then 4294967296 ^ m else 0) - t * nv v) ++ Z) = R
 generalize hB : decide (nv W < t * nv v) = B
 refine nx ?_
 refine LoopG.intro (σ := Nat × List Nat × List Nat × Nat × Nat) [0, 1, 2, 7, 8, 12, 13, 14] [0, 1]
  (fun s => [.ref 0 1 n m, .own 1 1, .d (.i .u64 (Ω .ci t)), .d (.i .u64 (Ω .ci s.2.2.2.1)), .d (.i .u32 (Ω .ci s.2.2.2.2)), .own 1 1, .d (.i .i64 (Ω .ci v.length)), .d (.i .i64 (Ω .ci s.1))])
  (fun s => [.row true T.uint32 1 (Ψ .lims s.2.1), .row true T.uint32 1 (Ψ .lims v)])
  (fun s => s.1 ≤ v.length ∧ s.2.1 = A ++ s.2.2.1 ++ (W.drop s.1 ++ Z) ∧ s.2.2.1.length = s.1 ∧ lim s.2.2.1 ∧ s.2.2.2.1 < 4294967296 ∧ s.2.2.2.2 ≤ 1 ∧
   nv s.2.2.1 + t * nv (v.take s.1) = nv (W.take s.1) + 4294967296 ^ s.1 * (s.2.2.2.1 + s.2.2.2.2))
  (fun s => v.length - s.1) (0, L0, [], 0, 0) [0, 1] ⟨Nat.zero_le _, by simp [hL0], rfl, lim_nil, by simp only; omega, by simp only; omega, by simp⟩ ⟨rfl, rfl, rfl⟩ ?_
 rintro ⟨i, L, s, c, o⟩ ⟨hi, hL, hsl, hsn, hc, ho, he⟩
 simp only at hi hL hsl hsn hc ho he
 have hLL : L.length = n + m + Z.length := by rw [hL]; simp [hsl]; omega
 have hiW : i < W.length := by omega
 obtain ⟨w, hw⟩ : ∃ w, W[i]? = some w := ⟨_, List.getElem?_eq_getElem hiW⟩
 have hwl := lim_get hW hw
 have hdrop : W.drop i = w :: W.drop (i + 1) := by
  obtain ⟨q, rfl⟩ := List.getElem?_eq_some_iff.1 hw
  exact List.drop_eq_getElem_cons q
 have hL' : L = (A ++ s) ++ w :: (W.drop (i + 1) ++ Z) := by rw [hL, hdrop]; simp
 have hat : L[n + i]? = some w := by rw [hL']; exact get_mid _ _ _ (by simp [hsl, hn])
 have hset : ∀ x, L.set (n + i) x = A ++ (s ++ [x]) ++ (W.drop (i + 1) ++ Z) := fun x => by
  rw [hL', set_mid _ _ _ _ (by simp [hsl, hn])]; simp
 refine nx ?_
 refine BrG.split (fun h => ?_) (fun h => ?_)
 ·have hi2 : i < v.length := by have := h; simp only [wz] at this; omega
  obtain ⟨u, hu⟩ : ∃ u, v[i]? = some u := ⟨_, List.getElem?_eq_getElem hi2⟩
  have hul := lim_get hv hu
  have hfit := mul_fits ht hul (show 0 < 4294967296 by omega) hc
  refine nx ?_
  refine own_lims i u rfl hu ?_ ?_ ?_
  ·exact Nat.le_refl _
  ·exact rfl
  refine nx ?_
  refine ⟨ci_nonneg _, by simp only [wz]; omega, .i .u32 (Ω .ci w), by rw [w_nadd, sget_lims, hat]; rfl, Nat.le_refl _, (by first | exact rfl | exact fun _ => rfl), ?_⟩
  refine nx ?_
  have ht2 : Ω .wrap .u64 (Ω .wrap .u64 (Ω .ci t * Ω .wrap .u64 (Ω .ci u)) + Ω .ci c) = Ω .ci (t * u + c) := by
   rw [wrapu64_ci, Nat.mod_eq_of_lt (a := u) (by omega), ci_mul, wrapu64_ci, Nat.mod_eq_of_lt (by omega), ci_add, wrapu64_ci, Nat.mod_eq_of_lt (by omega)]
  rw [ht2, wrapu32_ci]
  refine ⟨_, hC _ _ _ (sub32_good w ((t * u + c) % 4294967296) o hwl (Nat.mod_lt _ (by omega)) ho), ?_⟩
  have hx : (4294967296 + w - (t * u + c) % 4294967296 - o) % 4294967296 < 4294967296 := Nat.mod_lt _ (by omega)
  have hb : (4294967296 + w - (t * u + c) % 4294967296 - o) % 4294967296 + (t * u + c) % 4294967296 + o = w + 4294967296 * (if w < (t * u + c) % 4294967296 + o then 1 else 0) := by
   split <;> omega
  have hb1 : (if w < (t * u + c) % 4294967296 + o then 1 else 0) ≤ 1 := by split <;> omega
  generalize (4294967296 + w - (t * u + c) % 4294967296 - o) % 4294967296 = x at *
  generalize (if w < (t * u + c) % 4294967296 + o then 1 else 0) = o' at *
  refine nx ?_
  refine ⟨ci_nonneg _, by simp only [wz]; omega, by simp only [wz, List.length_set]; omega, (i + 1, L.set (n + i) x, s ++ [x], (t * u + c) / 4294967296, o'), [0, 1], ⟨hi2, hset x, by simp [hsl], lim_append.2 ⟨hsn, by simp [lim_cons, lim_nil]; exact hx⟩, by simp only; omega, hb1, ?_⟩, by simp only; omega, rfl, ?_, ?_⟩
  ·simp only
   rw [nv_snoc, hsl, nv_take_succ hu, nv_take_succ hw, Nat.pow_succ]
   exact less_step he rfl (Nat.mod_add_div _ _) hb
  ·refine Eq.trans (b := [.ref 0 1 n m, .own 1 1, .d (.i .u64 (Ω .ci t)), .d (.i .u64 _), .d (.i .u32 (Ω .ci _)), .own 1 1, .d (.i .i64 (Ω .ci v.length)), .d (.i .i64 _)]) rfl ?_
   rw [wrap_succ (by omega), ishr32]
  ·refine Eq.trans (b := [.row true T.uint32 1 _, .row true T.uint32 1 (Ψ .lims v)]) rfl ?_
   (try rw [w_nadd])
   rw [sset_lims]
 ·have hi2 : i = v.length := by have := h; simp only [wz] at this; omega
  subst hi2
  refine nx ?_
  refine ⟨ci_nonneg _, by simp only [wz]; omega, .i .u32 (Ω .ci w), by rw [w_nadd, sget_lims, hat]; rfl, Nat.le_refl _, (by first | exact rfl | exact fun _ => rfl), ?_⟩
  refine nx ?_
  rw [wrapu32_ci, Nat.mod_eq_of_lt hc]
  refine ⟨_, hC _ _ _ (sub32_good w c o hwl hc ho), ?_⟩
  have hx : (4294967296 + w - c - o) % 4294967296 < 4294967296 := Nat.mod_lt _ (by omega)
  have hb : (4294967296 + w - c - o) % 4294967296 + c + o = w + 4294967296 * (if w < c + o then 1 else 0) := by
   split <;> omega
  have hb1 : (if w < c + o then 1 else 0) ≤ 1 := by split <;> omega
  generalize (4294967296 + w - c - o) % 4294967296 = x at *
  generalize (if w < c + o then 1 else 0) = o' at *
  have hWt : nv W = nv (W.take v.length) + 4294967296 ^ v.length * w := by
   have := nv_take_succ hw
   rw [← hWl, List.take_length] at this
   exact this
  have hfin : nv (s ++ [x]) + t * nv v = nv W + 4294967296 ^ m * o' := by
   rw [List.take_length] at he
   rw [nv_snoc, hsl, hWt, hm, hWl, Nat.pow_succ, Nat.mul_assoc]
   have e : 4294967296 ^ v.length * (x + c + o) = 4294967296 ^ v.length * (w + 4294967296 * o') := by rw [hb]
   rw [Nat.mul_add, Nat.mul_add, Nat.mul_add] at e
   rw [Nat.mul_add] at he
   omega
  have hsx : lim (s ++ [x]) := lim_append.2 ⟨hsn, by simp [lim_cons, lim_nil]; exact hx⟩
  have hsxl : (s ++ [x]).length = m := by simp [hsl]; omega
  have hlt := nv_lt hsx
  rw [hsxl] at hlt
  refine nx ?_
  have hRx : (o' = if nv W < t * nv v then 1 else 0) → Ψ .lims (L.set (n + v.length) x) = R := fun ho' => by
   rw [← hR, hset x]
   have e1 : s ++ [x] = ln m (nv (s ++ [x])) := by have := ln_eq _ hsx; rwa [hsxl] at this
   have e2 : nv (s ++ [x]) = nv W + (if nv W < t * nv v then 4294967296 ^ m else 0) - t * nv v := by
    rw [ho'] at hfin
    split at hfin <;> rename_i q <;> simp only [q, if_true, if_false] <;> omega
   rw [e1, e2, List.drop_of_length_le (by omega), List.nil_append]
  refine ⟨ci_nonneg _, by simp only [wz]; omega, by simp only [wz, List.length_set]; omega, BrG.split (fun h => ?_) (fun h => ?_)⟩
  ·have : o' = 1 := by
             have : ¬ Ω .ci o' = 0 := by have := h; simp only [wz] at this ⊢; omega
             simp only [wz] at this; omega
   subst this
   have hlt2 : nv W < t * nv v := by omega
   have := hRx (by rw [if_pos hlt2])
   have hB' : B = true := by rw [← hB]; exact decide_eq_true hlt2
   subst hB'
   refine nx ?_
   refine ⟨[], rfl, rfl, ?_⟩
   refine Eq.trans (b := [.row true T.uint32 1 _, .row true T.uint32 1 (Ψ .lims v)]) rfl ?_
   rw [w_nadd, sset_lims, this]
  ·have : o' = 0 := by
             have : Ω .ci o' = 0 := by have := h; simp only [wz] at this ⊢; omega
             simp only [wz] at this; omega
   subst this
   have hlt2 : ¬ nv W < t * nv v := by omega
   have := hRx (by rw [if_neg hlt2])
   have hB' : B = false := by rw [← hB]; exact decide_eq_false hlt2
   subst hB'
   refine nx ?_
   refine ⟨[], rfl, rfl, ?_⟩
   refine Eq.trans (b := [.row true T.uint32 1 _, .row true T.uint32 1 (Ψ .lims v)]) rfl ?_
   rw [w_nadd, sset_lims, this]
end Go.K.S
namespace Go.K.S
open Go Go.K
theorem back_own (A W Z v : List Nat) (hW : lim W) (hv : lim v) (hl : (A ++ W ++ Z).length < 1099511627776) (hWl : W.length = v.length + 1) :
   Good P F.nat_back [.ref 0 1 A.length W.length, .own 1 1] [.row true T.uint32 1 (Ψ .lims (A ++ W ++ Z)), .row true T.uint32 1 (Ψ .lims v)] (.tup [])
    [.row true T.uint32 1 (Ψ .lims (A ++ ln W.length ((nv W + nv v) % 4294967296 ^ W.length) ++ Z)), .row true T.uint32 1 (Ψ .lims v)] := by
 obtain ⟨L0, hL0⟩ : ∃ L, L = A ++ W ++ Z := ⟨_, rfl⟩
 have hLl : L0.length = A.length + W.length + Z.length := by rw [hL0]; simp; omega
 rw [← hL0] at hl ⊢
 obtain ⟨n, hn⟩ : ∃ n, n = A.length := ⟨_, rfl⟩
 obtain ⟨m, hm⟩ : ∃ m, m = W.length := ⟨_, rfl⟩
 rw [← hn, ← hm]
 refine G.nat_back (fun C C2 hC hC2 => ?_) (hb := by simp)
 generalize hR : Ψ .lims (A ++ ln m ((nv W + nv v) % 4294967296 ^ m) ++ Z) = R
 refine nx ?_
 refine LoopG.intro (σ := Nat × List Nat × List Nat × Nat) [0, 1, 4, 7, 8, 9] [0, 1]
  (fun s => [.ref 0 1 n m, .own 1 1, .d (.i .u32 (Ω .ci s.2.2.2)), .own 1 1, .d (.i .i64 (Ω .ci v.length)), .d (.i .i64 (Ω .ci s.1))])
  (fun s => [.row true T.uint32 1 (Ψ .lims s.2.1), .row true T.uint32 1 (Ψ .lims v)])
  (fun s => s.1 ≤ v.length ∧ s.2.1 = A ++ s.2.2.1 ++ (W.drop s.1 ++ Z) ∧ s.2.2.1.length = s.1 ∧ lim s.2.2.1 ∧ s.2.2.2 ≤ 1 ∧
   nv s.2.2.1 + 4294967296 ^ s.1 * s.2.2.2 = nv (W.take s.1) + nv (v.take s.1))
  (fun s => v.length - s.1) (0, L0, [], 0) [0, 1] ⟨Nat.zero_le _, by simp [hL0], rfl, lim_nil, by simp only; omega, by simp⟩ ⟨rfl, rfl, rfl⟩ ?_
 rintro ⟨i, L, s, c⟩ ⟨hi, hL, hsl, hsn, hc, he⟩
 simp only at hi hL hsl hsn hc he
 have hLL : L.length = n + m + Z.length := by rw [hL]; simp [hsl]; omega
 have hiW : i < W.length := by omega
 obtain ⟨w, hw⟩ : ∃ w, W[i]? = some w := ⟨_, List.getElem?_eq_getElem hiW⟩
 have hwl := lim_get hW hw
 have hdrop : W.drop i = w :: W.drop (i + 1) := by
  obtain ⟨q, rfl⟩ := List.getElem?_eq_some_iff.1 hw
  exact List.drop_eq_getElem_cons q
 have hL' : L = (A ++ s) ++ w :: (W.drop (i + 1) ++ Z) := by rw [hL, hdrop]; simp
 have hat : L[n + i]? = some w := by rw [hL']; exact get_mid _ _ _ (by simp [hsl, hn])
 have hset : ∀ x, L.set (n + i) x = A ++ (s ++ [x]) ++ (W.drop (i + 1) ++ Z) := fun x => by
  rw [hL', set_mid _ _ _ _ (by simp [hsl, hn])]; simp
 refine nx ?_
 refine BrG.split (fun h => ?_) (fun h => ?_)
 ·have hi2 : i < v.length := by have := h; simp only [wz] at this; omega
  obtain ⟨u, hu⟩ : ∃ u, v[i]? = some u := ⟨_, List.getElem?_eq_getElem hi2⟩
  have hul := lim_get hv hu
  refine nx ?_
  refine own_lims i u rfl hu ?_ ?_ ?_
  ·exact Nat.le_refl _
  ·exact rfl
  refine nx ?_
  refine ⟨ci_nonneg _, by simp only [wz]; omega, .i .u32 (Ω .ci w), by rw [w_nadd, sget_lims, hat]; rfl, Nat.le_refl _, (by first | exact rfl | exact fun _ => rfl), ?_⟩
  refine nx ?_
  refine ⟨_, hC _ _ _ (add32_good w u c hwl hul hc), ?_⟩
  have hstep := add_step (x := w) (y := u) he
  have hx : (w + u + c) % 4294967296 < 4294967296 := Nat.mod_lt _ (by omega)
  have hb1 : (w + u + c) / 4294967296 ≤ 1 := by omega
  generalize (w + u + c) % 4294967296 = x at *
  generalize (w + u + c) / 4294967296 = o' at *
  refine nx ?_
  refine ⟨ci_nonneg _, by simp only [wz]; omega, by simp only [wz, List.length_set]; omega, (i + 1, L.set (n + i) x, s ++ [x], o'), [0, 1], ⟨hi2, hset x, by simp [hsl], lim_append.2 ⟨hsn, by simp [lim_cons, lim_nil]; exact hx⟩, hb1, ?_⟩, by simp only; omega, rfl, ?_, ?_⟩
  ·simp only
   rw [nv_snoc, hsl, nv_take_succ hu, nv_take_succ hw, Nat.pow_succ]
   exact hstep
  ·refine Eq.trans (b := [.ref 0 1 n m, .own 1 1, .d (.i .u32 (Ω .ci _)), .own 1 1, .d (.i .i64 (Ω .ci v.length)), .d (.i .i64 _)]) rfl ?_
   rw [wrap_succ (by omega)]
  ·refine Eq.trans (b := [.row true T.uint32 1 _, .row true T.uint32 1 (Ψ .lims v)]) rfl ?_
   (try rw [w_nadd])
   rw [sset_lims]
 ·have hi2 : i = v.length := by have := h; simp only [wz] at this; omega
  subst hi2
  refine nx ?_
  refine ⟨ci_nonneg _, by simp only [wz]; omega, .i .u32 (Ω .ci w), by rw [w_nadd, sget_lims, hat]; rfl, Nat.le_refl _, (by first | exact rfl | exact fun _ => rfl), ?_⟩
  have hWt : nv W = nv (W.take v.length) + 4294967296 ^ v.length * w := by
   have := nv_take_succ hw
   rw [← hWl, List.take_length] at this
   exact this
  have hsx : lim (s ++ [(w + c) % 4294967296]) := lim_append.2 ⟨hsn, by simp [lim_cons, lim_nil]; exact Nat.mod_lt _ (by omega)⟩
  have hsxl : (s ++ [(w + c) % 4294967296]).length = m := by simp [hsl]; omega
  have hlt := nv_lt hsx
  rw [hsxl] at hlt
  have hfin : nv (s ++ [(w + c) % 4294967296]) + 4294967296 ^ m * ((w + c) / 4294967296) = nv W + nv v := by
   rw [List.take_length] at he
   rw [nv_snoc, hsl, hWt, hm, hWl, Nat.pow_succ, Nat.mul_assoc, Nat.add_assoc, ← Nat.mul_add, Nat.mod_add_div, Nat.mul_add]
   omega
  have hRx : Ψ .lims (L.set (n + v.length) ((w + c) % 4294967296)) = R := by
   rw [← hR, hset]
   have e1 := ln_eq _ hsx
   rw [hsxl] at e1
   have e2 : nv (s ++ [(w + c) % 4294967296]) = (nv W + nv v) % 4294967296 ^ m := by
    rw [← hfin, Nat.add_mul_mod_self_left, Nat.mod_eq_of_lt hlt]
   rw [e1, e2, List.drop_of_length_le (by omega), List.nil_append]
  refine nx ?_
  rw [ci_add, wrapu32_ci]
  refine ⟨ci_nonneg _, by simp only [wz]; omega, by simp only [wz, List.length_set]; omega, [], rfl, rfl, ?_⟩
  refine Eq.trans (b := [.row true T.uint32 1 _, .row true T.uint32 1 (Ψ .lims v)]) rfl ?_
  rw [w_nadd, sset_lims, hRx]
end Go.K.S
end
section
namespace Go.K
theorem kn_e (B x M : Nat) : B * x * B * M = B * (x * B * M) := by rw [Nat.mul_assoc B x B, Nat.mul_assoc B]
section
variable {R T W2 lo V v1 v2 lo' M g r : Nat}
structure Kn (R T W2 lo V v1 v2 lo' M : Nat) : Prop where
 hR : R = (T * 4294967296 + W2) * M + lo
 hlo : lo < M
 hV : V = (v1 * 4294967296 + v2) * M + lo'
 hlo' : lo' < M
 hW2 : W2 < 4294967296
 hv2 : v2 < 4294967296
 hv1 : 2147483648 ≤ v1
 hv1' : v1 < 4294967296
 hRV : R < 4294967296 * V
theorem Kn.bound (K : Kn R T W2 lo V v1 v2 lo' M) : T < 4294967296 * (v1 + 1) := by
 obtain ⟨hR, hlo, hV, hlo', hW2, hv2, hv1, hv1', hRV⟩ := K
 rcases Nat.lt_or_ge T (4294967296 * (v1 + 1)) with q | q
 ·exact q
 exfalso
 have h0 : 4294967296 * (v1 + 1) * 4294967296 ≤ T * 4294967296 := Nat.mul_le_mul_right _ q
 have h1 := Nat.mul_le_mul_right M (Nat.le_trans h0 (Nat.le_add_right _ W2))
 have h2 := Nat.mul_le_mul_right M (show v1 * 4294967296 + v2 + 1 ≤ (v1 + 1) * 4294967296 by omega)
 rw [kn_e] at h1
 rw [Nat.add_mul _ 1] at h2
 omega
theorem Kn.first (K : Kn R T W2 lo V v1 v2 lo' M) : R / V ≤ T / v1 := by
 obtain ⟨hR, hlo, hV, hlo', hW2, hv2, hv1, hv1', hRV⟩ := K
 rw [Nat.le_div_iff_mul_le (by omega)]
 have h1 := Nat.div_mul_le_self R V
 generalize R / V = q at *
 rcases Nat.lt_or_ge T (q * v1) with c | c
 ·exfalso
  have h2 : q * V = q * v1 * 4294967296 * M + q * (v2 * M + lo') := by
   rw [hV, Nat.add_mul, Nat.add_assoc, Nat.mul_add]; congr 1; ac_rfl
  have h3 := Nat.mul_le_mul_right (4294967296 * M) (show T + 1 ≤ q * v1 by omega)
  rw [Nat.add_mul, ← Nat.mul_assoc T, ← Nat.mul_assoc (q * v1)] at h3
  have h4 : R = T * 4294967296 * M + W2 * M + lo := by rw [hR, Nat.add_mul]
  have h5 := Nat.mul_le_mul_right M (show W2 + 1 ≤ 4294967296 by omega)
  rw [Nat.add_mul] at h5
  omega
 ·exact c
theorem Kn.down (K : Kn R T W2 lo V v1 v2 lo' M) (h : g * v1 + r = T) (hg : r * 4294967296 + W2 < g * v2) : R < g * V := by
 obtain ⟨hR, hlo, hV, hlo', hW2, hv2, hv1, hv1', hRV⟩ := K
 have h2 : g * V = g * v1 * 4294967296 * M + g * v2 * M + g * lo' := by
  rw [hV, Nat.mul_add, Nat.add_mul, Nat.mul_add]; congr 1; congr 1 <;> ac_rfl
 have h3 := Nat.mul_le_mul_right M (show r * 4294967296 + W2 + 1 ≤ g * v2 by omega)
 rw [Nat.add_mul, Nat.add_mul] at h3
 have h4 : R = g * v1 * 4294967296 * M + r * 4294967296 * M + W2 * M + lo := by rw [hR, ← h, Nat.add_mul, Nat.add_mul, Nat.add_mul]
 omega
theorem Kn.big (K : Kn R T W2 lo V v1 v2 lo' M) : 4294967296 * M ≤ V := by
 obtain ⟨hR, hlo, hV, hlo', hW2, hv2, hv1, hv1', hRV⟩ := K
 have := Nat.mul_le_mul_right M (show 4294967296 ≤ v1 * 4294967296 + v2 by omega)
 omega
theorem Kn.last (K : Kn R T W2 lo V v1 v2 lo' M) (h : g * v1 + r = T) (hg : g < 4294967296) (hq : g * v2 ≤ r * 4294967296 + W2) : g * V < R + V := by
 have hb := K.big
 obtain ⟨hR, hlo, hV, hlo', hW2, hv2, hv1, hv1', hRV⟩ := K
 have h2 : g * V = g * v1 * 4294967296 * M + g * v2 * M + g * lo' := by
  rw [hV, Nat.mul_add, Nat.add_mul, Nat.mul_add]; congr 1; congr 1 <;> ac_rfl
 have h3 := Nat.mul_le_mul_right M hq
 rw [Nat.add_mul] at h3
 have h4 : R = g * v1 * 4294967296 * M + r * 4294967296 * M + W2 * M + lo := by rw [hR, ← h, Nat.add_mul, Nat.add_mul, Nat.add_mul]
 have h5 : g * lo' < 4294967296 * M := by
  have := Nat.mul_le_mul (show g + 1 ≤ 4294967296 by omega) (show lo' + 1 ≤ M by omega)
  rw [Nat.add_mul, Nat.mul_add] at this
  omega
 omega
theorem Kn.broke (K : Kn R T W2 lo V v1 v2 lo' M) (h : g * v1 + r = T) (hr : 4294967296 ≤ r) : g < 4294967296 ∧ g * V < R + V := by
 have hT := K.bound
 have hb := K.big
 obtain ⟨hR, hlo, hV, hlo', hW2, hv2, hv1, hv1', hRV⟩ := K
 have hg : g < 4294967296 := by
  rcases Nat.lt_or_ge g 4294967296 with q | q
  ·exact q
  ·have := Nat.mul_le_mul_right v1 q
   rw [Nat.mul_add] at hT
   omega
 refine ⟨hg, ?_⟩
 have h2 : g * V = g * v1 * 4294967296 * M + g * (v2 * M + lo') := by
  rw [hV, Nat.add_mul, Nat.add_assoc, Nat.mul_add]; congr 1; ac_rfl
 have h3 : g * (v2 * M + lo') ≤ 4294967296 * (4294967296 * M) := by
  refine Nat.mul_le_mul (by omega) ?_
  have := Nat.mul_le_mul_right M (show v2 + 1 ≤ 4294967296 by omega)
  rw [Nat.add_mul] at this
  omega
 have h4 : R = g * v1 * 4294967296 * M + r * 4294967296 * M + W2 * M + lo := by rw [hR, ← h, Nat.add_mul, Nat.add_mul, Nat.add_mul]
 have h5 := Nat.mul_le_mul_right (4294967296 * M) hr
 rw [← Nat.mul_assoc r] at h5
 omega
end
end Go.K
end
section
namespace Go.K
open Go
def sg (b : Bool) (n : Nat) : Int := if b then -(n : Int) else n
def rv (r : RL) : Rat := mkRat (sg r.neg (nv r.num)) (nv r.den)
structure Rn (k : Nat) (r : RL) : Prop where
 ln : lim r.num
 ld : lim r.den
 kn : r.num.length ≤ k
 kd : r.den.length ≤ k
structure Qn (k : Nat) (q : Rat) : Prop where
 n : q.num.natAbs < 4294967296 ^ k
 d : q.den < 4294967296 ^ k
theorem sg_natAbs (b : Bool) (n : Nat) : (sg b n).natAbs = n := by cases b <;> simp [sg]
theorem sg_zero (b : Bool) : sg b 0 = 0 := by cases b <;> rfl
theorem sg_eq_zero {b : Bool} {n : Nat} : sg b n = 0 ↔ n = 0 := by cases b <;> simp [sg]
theorem sg_not (b : Bool) (n : Nat) : sg (!b) n = - sg b n := by cases b <;> simp [sg]
theorem sg_mul (a b : Bool) (m n : Nat) : sg a m * sg b n = sg (a != b) (m * n) := by
 cases a <;> cases b <;> simp [sg, Int.neg_mul, Int.mul_neg]
theorem sg_add_same (b : Bool) (m n : Nat) : sg b m + sg b n = sg b (m + n) := by
 cases b <;> simp [sg] <;> omega
theorem sg_mul_nat (b : Bool) (m n : Nat) : sg b m * (n : Int) = sg b (m * n) := by
 cases b <;> simp [sg, Int.neg_mul]
theorem sg_add_diff {a b : Bool} {m n : Nat} (h : a ≠ b) (hmn : n ≤ m) : sg a m + sg b n = sg a (m - n) := by
 cases a <;> cases b <;> simp [sg] at h ⊢ <;> omega
theorem sg_div (b : Bool) {m n : Nat} (h : n ∣ m) : sg b m / (n : Int) = sg b (m / n) := by
 cases b
 ·simp [sg]
 ·simp only [sg, if_true]
  rw [Int.neg_ediv_of_dvd (Int.natCast_dvd_natCast.2 h)]
  simp
theorem rv_mk (b : Bool) (x y : List Nat) : rv ⟨b, x, y⟩ = mkRat (sg b (nv x)) (nv y) := rfl
theorem cr_zero : Ψ .cr 0 = ⟨false, [], [1]⟩ := by
 have h1 : Ψ .cn 0 = [] := cn_zero
 have h2 : Ψ .cn 1 = [1] := by rw [cn_pos (by omega)]; simp [cn_zero]
 simp [p_cr, h1, h2]
theorem cn_one : Ψ .cn 1 = [1] := by rw [cn_pos (by omega)]; simp [cn_zero]
theorem rv_cr (q : Rat) : rv (Ψ .cr q) = q := by
 simp only [rv, p_cr, nv_cn]
 have : sg (decide (q.num < 0)) q.num.natAbs = q.num := by
  unfold sg
  by_cases h : q.num < 0
  ·simp [h]; omega
  ·simp [h]; omega
 rw [this, Rat.mkRat_self]
theorem Rn_cr {k : Nat} {q : Rat} : Rn k (Ψ .cr q) ↔ Qn k q :=
 ⟨fun h => ⟨len_cn.1 h.kn, len_cn.1 h.kd⟩, fun h => ⟨lim_cn _, lim_cn _, len_cn.2 h.n, len_cn.2 h.d⟩⟩
theorem cr_inj {p q : Rat} (h : Ψ .cr p = Ψ .cr q) : p = q := by rw [← rv_cr p, h, rv_cr]
theorem cr_mk {b : Bool} {m n : Nat} (hm : m ≠ 0) (hn : n ≠ 0) : Ψ .cr (mkRat (sg b m) n) = ⟨b, Ψ .cn (m / m.gcd n), Ψ .cn (n / m.gcd n)⟩ := by
 have hg : n.gcd m = m.gcd n := Nat.gcd_comm _ _
 have h1 : (mkRat (sg b m) n).num = sg b (m / m.gcd n) := by
  rw [Rat.num_mkRat, if_neg hn, sg_natAbs, hg, sg_div _ (Nat.gcd_dvd_left m n)]
 have h2 : (mkRat (sg b m) n).den = n / m.gcd n := by
  rw [Rat.den_mkRat, if_neg hn, sg_natAbs, hg]
 have h3 : 0 < m / m.gcd n := Nat.div_pos (Nat.le_of_dvd (by omega) (Nat.gcd_dvd_left m n)) (Nat.gcd_pos_of_pos_left n (by omega))
 simp only [p_cr, h1, h2, sg_natAbs]
 congr 1
 cases b
 ·simp only [sg]
  refine decide_eq_false (fun h => ?_)
  simp only [Bool.false_eq_true, if_false] at h
  omega
 ·simp only [sg]
  refine decide_eq_true ?_
  simp only [if_true]
  omega
theorem mk_zero_num (b : Bool) (n : Nat) : mkRat (sg b 0) n = 0 := by rw [sg_zero]; exact Rat.zero_mkRat n
theorem mk_zero_den (x : Int) : mkRat x 0 = 0 := Rat.mkRat_zero x
theorem Qn_mk {x : Int} {n k : Nat} (hx : x.natAbs < 4294967296 ^ k) (hn : n < 4294967296 ^ k) (hk : 0 < k) : Qn k (mkRat x n) := by
 have hB : 1 < 4294967296 ^ k := Nat.one_lt_pow (by omega) (by omega)
 refine ⟨?_, ?_⟩
 ·rw [Rat.num_mkRat]
  split
  ·simp; omega
  ·exact Nat.lt_of_le_of_lt (Int.natAbs_ediv_le_natAbs _ _) hx
 ·rw [Rat.den_mkRat]
  split
  ·exact hB
  ·exact Nat.lt_of_le_of_lt (Nat.div_le_self _ _) hn
theorem pow_pos_B (k : Nat) : 0 < 4294967296 ^ k := Nat.pow_pos (by omega)
theorem B_mono {j k : Nat} (h : j ≤ k) : 4294967296 ^ j ≤ 4294967296 ^ k := Nat.pow_le_pow_right (by omega) h
theorem Qn.mono {j k : Nat} {q : Rat} (h : Qn j q) (hjk : j ≤ k) : Qn k q := ⟨Nat.lt_of_lt_of_le h.n (B_mono hjk), Nat.lt_of_lt_of_le h.d (B_mono hjk)⟩
theorem Rn.mono {j k : Nat} {r : RL} (h : Rn j r) (hjk : j ≤ k) : Rn k r := ⟨h.ln, h.ld, by have := h.kn; omega, by have := h.kd; omega⟩
theorem Qn_zero {k : Nat} (hk : 0 < k) : Qn k 0 := ⟨pow_pos_B k, Nat.one_lt_pow (by omega) (by omega)⟩
theorem Qn_one {k : Nat} (hk : 0 < k) : Qn k 1 := ⟨Nat.one_lt_pow (by omega) (by omega), Nat.one_lt_pow (by omega) (by omega)⟩
theorem Qn_rv {k : Nat} {r : RL} (h : Rn k r) (hk : 0 < k) : Qn k (rv r) := by
 refine Qn_mk ?_ ?_ hk
 ·rw [sg_natAbs]; exact Nat.lt_of_lt_of_le (nv_lt h.ln) (B_mono h.kn)
 ·exact Nat.lt_of_lt_of_le (nv_lt h.ld) (B_mono h.kd)
theorem lt_mul_pow {a b j k : Nat} (ha : a < 4294967296 ^ j) (hb : b < 4294967296 ^ k) : a * b < 4294967296 ^ (j + k) := by
 rw [Nat.pow_add]
 exact Nat.mul_lt_mul_of_lt_of_le ha (Nat.le_of_lt hb) (pow_pos_B k)
theorem Qn_mul {j k : Nat} {p q : Rat} (hp : Qn j p) (hq : Qn k q) (h : 0 < j + k) : Qn (j + k) (p * q) := by
 have e : p * q = mkRat (p.num * q.num) (p.den * q.den) := Rat.mul_def' p q
 rw [e]
 refine Qn_mk ?_ (lt_mul_pow hp.d hq.d) h
 rw [Int.natAbs_mul]
 exact lt_mul_pow hp.n hq.n
theorem Qn_neg {k : Nat} {q : Rat} (h : Qn k q) : Qn k (-q) := ⟨by simpa [wz] using h.n, by simpa [wz] using h.d⟩
theorem Qn_add {j k : Nat} {p q : Rat} (hp : Qn j p) (hq : Qn k q) : Qn (j + k + 1) (p + q) := by
 have e : p + q = mkRat (p.num * q.den + q.num * p.den) (p.den * q.den) := Rat.add_def' p q
 rw [e]
 have h1 := lt_mul_pow hp.n hq.d
 have h2 := lt_mul_pow hq.n hp.d
 rw [Nat.add_comm k j] at h2
 have h3 : (p.num * q.den + q.num * p.den).natAbs ≤ p.num.natAbs * q.den + q.num.natAbs * p.den := by
  refine Nat.le_trans (Int.natAbs_add_le _ _) ?_
  rw [Int.natAbs_mul, Int.natAbs_mul]
  simp
 refine Qn_mk ?_ ?_ (by omega)
 ·rw [Nat.pow_succ]; omega
 ·exact Nat.lt_of_lt_of_le (lt_mul_pow hp.d hq.d) (B_mono (by omega))
theorem Qn_sub {j k : Nat} {p q : Rat} (hp : Qn j p) (hq : Qn k q) : Qn (j + k + 1) (p - q) := by
 rw [Rat.sub_eq_add_neg]; exact Qn_add hp (Qn_neg hq)
theorem Qn_inv {k : Nat} {q : Rat} (h : Qn k q) (hk : 0 < k) : Qn k q⁻¹ := by
 by_cases hq : q = 0
 ·subst hq; rw [Rat.inv_zero]; exact Qn_zero hk
 ·have hn : q.num ≠ 0 := by simpa [wz] using hq
  rw [Rat.inv_def]
  have e : Rat.divInt (q.den : Int) q.num = mkRat (sg (decide (q.num < 0)) q.den) q.num.natAbs := by
   rcases Int.lt_or_gt_of_ne hn with c | c
   ·have h1 : q.num = -(q.num.natAbs : Int) := by omega
    have h2 : sg (decide (q.num < 0)) q.den = -(q.den : Int) := by simp [sg, c]
    rw [h2, h1, Rat.divInt_neg']
    simp [Rat.divInt]
   ·have h1 : q.num = (q.num.natAbs : Int) := by omega
    have h2 : sg (decide (q.num < 0)) q.den = (q.den : Int) := by
     have : ¬ q.num < 0 := by omega
     simp [sg, this]
    rw [h2, h1]
    simp [Rat.divInt]
  rw [e]
  exact Qn_mk (by rw [sg_natAbs]; exact h.d) h.n hk
theorem Qn_div {j k : Nat} {p q : Rat} (hp : Qn j p) (hq : Qn k q) (hk : 0 < k) : Qn (j + k) (p / q) := by
 rw [Rat.div_def]; exact Qn_mul hp (Qn_inv hq hk) (by omega)
end Go.K
namespace Go.K
open Go
theorem cI_neg {p q : Rat} : Ψ .cI p q < 0 ↔ p < q := by simp only [p_cI]; split <;> (try split) <;> simp_all
theorem cI_pos {p q : Rat} : 0 < Ψ .cI p q ↔ q < p := by
 simp only [p_cI]; split <;> (try split) <;> simp_all
 exact Rat.not_lt.2 (Rat.le_of_lt ‹_›)
theorem cI_nonpos {p q : Rat} : Ψ .cI p q ≤ 0 ↔ p ≤ q := by
 have := @cI_pos p q
 rw [← Rat.not_lt, ← this]; omega
theorem cI_nonneg {p q : Rat} : 0 ≤ Ψ .cI p q ↔ q ≤ p := by
 have := @cI_neg p q
 rw [← Rat.not_lt, ← this]; omega
theorem cI_zero {p q : Rat} : Ψ .cI p q = 0 ↔ p = q := by
 have h1 := @cI_nonpos p q
 have h2 := @cI_nonneg p q
 constructor
 ·intro h
  exact Rat.le_antisymm (h1.1 (by omega)) (h2.1 (by omega))
 ·rintro rfl
  have h3 := h1.2 Rat.le_refl
  have h4 := h2.2 Rat.le_refl
  omega
theorem sI_neg {q : Rat} : Ψ .sI q < 0 ↔ q < 0 := cI_neg
theorem sI_pos {q : Rat} : 0 < Ψ .sI q ↔ 0 < q := cI_pos
theorem sI_nonpos {q : Rat} : Ψ .sI q ≤ 0 ↔ q ≤ 0 := cI_nonpos
theorem sI_zero {q : Rat} : Ψ .sI q = 0 ↔ q = 0 := cI_zero
theorem cI_sub (p q : Rat) : Ψ .sI (p - q) = Ψ .cI p q := by
 have h1 : p - q < 0 ↔ p < q := by constructor <;> intro h <;> grind
 have h2 : 0 < p - q ↔ q < p := by constructor <;> intro h <;> grind
 simp only [p_sI, p_cI]
 simp only [h1, h2]
theorem mk_lt {x y : Int} {m n : Nat} (hm : m ≠ 0) (hn : n ≠ 0) : mkRat x m < mkRat y n ↔ x * n < y * m := by
 have h1 : (0 : Rat) < (m : Rat) := by exact_mod_cast Nat.pos_of_ne_zero hm
 have h2 : (0 : Rat) < (n : Rat) := by exact_mod_cast Nat.pos_of_ne_zero hn
 rw [Rat.mkRat_eq_div, Rat.mkRat_eq_div, Rat.div_lt_iff h1]
 have e : (y : Rat) / (n : Rat) * (m : Rat) = (y : Rat) * (m : Rat) / (n : Rat) := by grind
 rw [e, Rat.lt_div_iff h2]
 exact_mod_cast Iff.rfl
theorem mk_lt_zero {x : Int} {m : Nat} (hm : m ≠ 0) : mkRat x m < 0 ↔ x < 0 := by
 have := mk_lt (x := x) (y := 0) hm (n := 1) (by omega)
 rw [Rat.zero_mkRat] at this
 rw [this]; simp
theorem zero_lt_mk {x : Int} {m : Nat} (hm : m ≠ 0) : 0 < mkRat x m ↔ 0 < x := by
 have := mk_lt (x := 0) (y := x) (m := 1) (by omega) hm
 rw [Rat.zero_mkRat] at this
 rw [this]; simp
theorem sI_mk {b : Bool} {m n : Nat} (hm : m ≠ 0) (hn : n ≠ 0) : Ψ .sI (mkRat (sg b m) n) = if b then -1 else 1 := by
 simp only [p_sI]
 simp only [mk_lt_zero hn, zero_lt_mk hn]
 cases b <;> simp [sg] <;> omega
theorem cI_mk {b : Bool} {m n m' n' : Nat} (hn : n ≠ 0) (hn' : n' ≠ 0) : Ψ .cI (mkRat (sg b m) n) (mkRat (sg b m') n') = (if b then -1 else 1) * Ψ .cmpI (m * n') (m' * n) := by
 simp only [p_cI, p_cmpI]
 simp only [mk_lt hn hn', mk_lt hn' hn, sg_mul_nat]
 generalize m * n' = x
 generalize m' * n = y
 cases b <;> simp only [sg, if_true, if_false, Bool.false_eq_true]
 ·have e1 : ((x : Int) < y) = (x < y) := by simp
  have e2 : ((y : Int) < x) = (y < x) := by simp
  simp only [e1, e2, Int.one_mul]
 ·have e1 : (-(x : Int) < -y) = (y < x) := by simp
  have e2 : (-(y : Int) < -x) = (x < y) := by simp
  simp only [e1, e2]
  by_cases h1 : x < y <;> by_cases h2 : y < x <;> simp [h1, h2] <;> omega
end Go.K
namespace Go.K
open Go
theorem cn_top {n : Nat} (hn : n ≠ 0) : ∃ x m, (Ψ .cn n).length = m + 1 ∧ (Ψ .cn n)[m]? = some x ∧ x ≠ 0 ∧ x < 4294967296 ∧ n < 4294967296 ^ m * (x + 1) ∧ 4294967296 ^ m * x ≤ n ∧ n = nv ((Ψ .cn n).take m) + 4294967296 ^ m * x := by
 have hl : (Ψ .cn n).length ≠ 0 := fun h => hn (cn_eq_nil.1 (List.eq_nil_of_length_eq_zero h))
 obtain ⟨m, hm⟩ : ∃ m, (Ψ .cn n).length = m + 1 := ⟨(Ψ .cn n).length - 1, by omega⟩
 obtain ⟨x, hx⟩ : ∃ x, (Ψ .cn n)[m]? = some x := ⟨_, List.getElem?_eq_getElem (by omega)⟩
 have h0 := cano_cn n x (by rw [List.getLast?_eq_getElem?, hm]; exact hx)
 have h1 := nv_take_succ hx
 rw [← hm, List.take_length, nv_cn] at h1
 have h2 := nv_lt (lim_take (lim_cn n) m)
 rw [List.length_take, Nat.min_eq_left (by omega)] at h2
 refine ⟨x, m, hm, hx, h0, lim_get (lim_cn n) hx, ?_, by omega, h1⟩
 rw [Nat.mul_add]; omega
theorem len_cn_eq {m n : Nat} (h : m ≤ n) : (Ψ .cn m).length ≤ (Ψ .cn n).length := by
 rcases Nat.lt_or_ge (Ψ .cn n).length (Ψ .cn m).length with c | c
 ·have := cn_len_lt c; omega
 ·exact c
end Go.K
end
section
namespace Go.K
theorem long_round {w q : List Nat} {j m V Q R' X : Nat} (hw : lim w) (hj : j + m ≤ w.length) (hjq : j < q.length) (hq : lim q) (hZ : nv ((w.drop j).drop m) = 0) (hR' : R' < 4294967296 ^ m) (hQ : Q < 4294967296)
  (h : nv ((w.drop j).take m) = Q * V + R') (hinv : nv w + V * (4294967296 ^ (j + 1) * nv (q.drop (j + 1))) = X) (hlt : R' < V) :
  lim (w.take j ++ ln m R' ++ w.drop (j + m)) ∧ (w.take j ++ ln m R' ++ w.drop (j + m)).length = w.length ∧ lim (q.set j Q) ∧ (q.set j Q).length = q.length ∧
   nv (w.take j ++ ln m R' ++ w.drop (j + m)) + V * (4294967296 ^ j * nv ((q.set j Q).drop j)) = X ∧ nv ((w.take j ++ ln m R' ++ w.drop (j + m)).drop j) < V := by
 have hlA : (w.take j).length = j := by rw [List.length_take]; omega
 have hZ' : nv (w.drop (j + m)) = 0 := by rw [List.drop_drop] at hZ; exact hZ
 have hval : nv (ln m R' ++ w.drop (j + m)) = R' := by rw [nv_append, nv_ln hR', hZ', Nat.mul_zero, Nat.add_zero]
 have hwv : nv w = nv (w.take j) + 4294967296 ^ j * (Q * V + R') := by
  rw [nv_split w j (by omega), nv_split (w.drop j) m (by simp; omega), hZ, Nat.mul_zero, Nat.add_zero, h]
 refine ⟨lim_append.2 ⟨lim_append.2 ⟨lim_take hw _, lim_ln _ _⟩, lim_drop hw _⟩, ?_, lim_set hq _ hQ, by simp, ?_, ?_⟩
 ·simp [len_ln]; omega
 ·rw [List.append_assoc, nv_append, hval, hlA, nv_set_drop hjq, ← hinv, hwv, Nat.pow_succ]
  generalize nv (q.drop (j + 1)) = d
  generalize 4294967296 ^ j = M
  generalize nv (w.take j) = a
  rw [Nat.mul_add M (Q * V), Nat.mul_add M Q, Nat.mul_add V, Nat.mul_assoc M 4294967296 d]
  have : V * (M * Q) = M * (Q * V) := by ac_rfl
  omega
 ·have : (w.take j ++ ln m R' ++ w.drop (j + m)).drop j = ln m R' ++ w.drop (j + m) := by
   rw [List.append_assoc, List.drop_append_of_le_length (by omega), List.drop_of_length_le (by omega), List.nil_append]
  rw [this, hval]
  exact hlt
theorem guess_right {R V G : Nat} (h2 : R / V ≤ G) (h3 : ¬ R < G * V) (hV : 0 < V) : R = G * V + (R - G * V) ∧ R - G * V < V := by
 have h4 := (Nat.div_lt_iff_lt_mul hV).1 (Nat.lt_succ_of_le h2)
 rw [Nat.succ_mul] at h4
 omega
theorem guess_over {R V G M : Nat} (h1 : G * V < R + V) (h3 : R < G * V) (hV : V < M) : 0 < G ∧ (R + M - G * V + V) % M = R + V - G * V ∧ R = (G - 1) * V + (R + V - G * V) ∧ R + V - G * V < V := by
 have hG : 0 < G := by
  rcases Nat.eq_zero_or_pos G with c | c
  ·subst c; omega
  ·exact c
 obtain ⟨g, rfl⟩ : ∃ g, G = g + 1 := ⟨G - 1, by omega⟩
 rw [Nat.add_mul, Nat.one_mul] at *
 refine ⟨hG, ?_, ?_, by omega⟩
 ·rw [show R + M - (g * V + V) + V = M + (R + V - (g * V + V)) by omega, Nat.add_mod_left, Nat.mod_eq_of_lt (by omega)]
 ·simp only [Nat.add_sub_cancel]; omega
theorem shifted_top {b : List Nat} {n top s : Nat} (hb : lim b) (hn : b.length = n + 1) (ht : b[n]? = some top) (ht0 : top ≠ 0) (hs : s = 32 - bl top) :
  4294967296 ^ n * 2147483648 ≤ nv b * 2 ^ s ∧ nv b * 2 ^ s < 4294967296 ^ (n + 1) := by
 have htl := lim_get hb ht
 have hbl : bl top ≤ 32 := bl_le.2 htl
 have h1 := nv_take_succ ht
 rw [← hn, List.take_length] at h1
 have h2 := nv_lt (lim_take hb n)
 rw [List.length_take, Nat.min_eq_left (by omega)] at h2
 have hlo : 2 ^ (bl top - 1) ≤ top := by
  rcases Nat.lt_or_ge top (2 ^ (bl top - 1)) with q | q
  ·have h3 := bl_le.2 q
   have h4 : bl top ≠ 0 := fun h => ht0 (bl_eq_zero.1 h)
   omega
  ·exact q
 have h4 : bl top ≠ 0 := fun h => ht0 (bl_eq_zero.1 h)
 have hp1 : 2 ^ (bl top - 1) * 2 ^ s = 2147483648 := by rw [← Nat.pow_add, show bl top - 1 + s = 31 by omega]
 have hp2 : 2 ^ bl top * 2 ^ s = 4294967296 := by rw [← Nat.pow_add, show bl top + s = 32 by omega]
 have hhi := bl_lt top
 have a1 : 2147483648 ≤ top * 2 ^ s := by rw [← hp1]; exact Nat.mul_le_mul_right _ hlo
 have a2 : (top + 1) * 2 ^ s ≤ 4294967296 := by rw [← hp2]; exact Nat.mul_le_mul_right _ hhi
 rw [Nat.pow_succ]
 generalize 4294967296 ^ n = M at *
 refine ⟨?_, ?_⟩
 ·have := Nat.mul_le_mul_left M a1
  rw [← Nat.mul_assoc] at this
  rw [h1, Nat.add_mul]
  omega
 ·have h5 : nv b + 1 ≤ M * (top + 1) := by rw [h1, Nat.mul_add]; omega
  have h6 := Nat.mul_le_mul_right (2 ^ s) h5
  have h7 := Nat.mul_le_mul_left M a2
  rw [← Nat.mul_assoc] at h7
  have h8 : 0 < 2 ^ s := Nat.pow_pos (by omega)
  rw [Nat.add_mul] at h6
  omega
end Go.K
namespace Go.K.S
open Go Go.K
def mdLong : FuncId → Bool := fun g => g == F.nat_Shl || g == F.nat_less || g == F.nat_back
theorem long_good (a b : List Nat) (ha : N a) (hb : N b) (hcb : cano b) (hb2 : 2 ≤ b.length) (hab : b.length ≤ a.length) (hal : a.length < 549755813888) :
  Good P F.nat_long [.d (dN Ψ a), .d (dN Ψ b)] [] (.tup [.d (dN Ψ (Ψ .cn (nv a / nv b))), .d (dN Ψ (Ψ .cn (nv a % nv b)))]) [] := by
 refine G1.nat_long mdLong fun C C2 hC hC2 => ?_
 obtain ⟨top, htop⟩ : ∃ t, b[b.length - 1]? = some t := ⟨_, List.getElem?_eq_getElem (by omega)⟩
 have htl := lim_get hb.lim htop
 have ht0 : top ≠ 0 := hcb top (by rw [List.getLast?_eq_getElem?]; exact htop)
 have hbl : bl top ≤ 32 := bl_le.2 htl
 have hbl0 : 0 < bl top := by
               rcases Nat.eq_zero_or_pos (bl top) with q | q
               ·exact absurd (bl_eq_zero.1 q) ht0
               ·exact q
 refine nx ?_
 refine idx_lims (b.length - 1) top (wrap_pred (by omega) (by have := hb.len; omega)) htop rfl ?_
 refine nx ?_
 refine ⟨_, hC _ _ _ (lead32_good top htl), ?_⟩
 obtain ⟨s, hs⟩ : ∃ s, s = 32 - bl top := ⟨_, rfl⟩
 rw [← hs]
 have hs32 : s < 32 := by omega
 refine nx ?_
 have hv := shl_own b s hb (by omega) (by omega)
 have hu := shl_own a s ha (by omega) (by omega)
 refine ⟨_, _, hC2 _ _ _ _ _ hv, ?_⟩
 refine nx ?_
 refine ⟨_, _, hC2 _ _ _ _ _ hu, ?_⟩
 refine nx ?_
 obtain ⟨n, hn⟩ : ∃ n, b.length = n + 2 := ⟨b.length - 2, by omega⟩
 have hst := shifted_top hb.lim (n := n + 1) (by omega) (by rw [show n + 1 = b.length - 1 by omega]; exact htop) ht0 hs
 obtain ⟨vl, hvl⟩ : ∃ vl, vl = Ψ .cn (nv b * 2 ^ s) := ⟨_, rfl⟩
 obtain ⟨ul, hul⟩ : ∃ ul, ul = Ψ .cn (nv a * 2 ^ s) := ⟨_, rfl⟩
 have hvn : nv vl = nv b * 2 ^ s := by rw [hvl, nv_cn]
 have hun : nv ul = nv a * 2 ^ s := by rw [hul, nv_cn]
 have hvlim : lim vl := by rw [hvl]; exact lim_cn _
 have hulim : lim ul := by rw [hul]; exact lim_cn _
 have hvlen : vl.length = n + 2 := by
  have h1 : vl.length ≤ n + 2 := by rw [hvl]; exact len_cn.2 hst.2
  have h2 : ¬ vl.length ≤ n + 1 := fun q => by
   rw [hvl] at q
   have := len_cn.1 q
   have h3 : 0 < 4294967296 ^ (n + 1) := Nat.pow_pos (by omega)
   have h4 := hst.1
   omega
  omega
 have hulen : ul.length ≤ a.length + 1 := by
  rw [hul]
  refine len_cn.2 ?_
  have h1 := nv_lt ha.lim
  have h2 : 2 ^ s ≤ 4294967296 := Nat.pow_le_pow_right (n := 2) (by omega) (show s ≤ 32 by omega)
  rw [Nat.pow_succ]
  exact Nat.lt_of_lt_of_le (Nat.mul_lt_mul_of_pos_right h1 (Nat.pow_pos (by omega))) (Nat.mul_le_mul_left _ h2)
 rw [← hvl, ← hul]
 refine LoopG.intro (σ := List Nat) [0, 6, 7, 9, 11] [1050, 1051]
  (fun w => [.d (dN Ψ a), .d (.i .i64 (Ω .ci s)), .own 1051 1, .own 1050 1, .d (.i .i64 (Ω .ci vl.length))])
  (fun w => [.row true T.uint32 1 (Ψ .lims w), .row true T.uint32 1 (Ψ .lims vl)])
  (fun w => lim w ∧ nv w = nv a * 2 ^ s ∧ w.length ≤ a.length + 1)
  (fun w => a.length + 1 - w.length) ul [1010416, 1009616] ⟨hulim, hun, hulen⟩ ⟨rfl, rfl, rfl⟩ ?_
 rintro w ⟨hw, hwn, hwl⟩
 refine nx ?_
 refine BrG.split (fun h => ?_) (fun h => ?_)
 ·have hlt : w.length ≤ a.length := by have := h; simp only [wz] at this; omega
  refine nx ?_
  refine ⟨cells_one _ _, (by simp only [wz]; omega), w ++ [0], [1602, 1051], ⟨lim_append.2 ⟨hw, by simp [lim_cons, lim_nil]⟩, by rw [nv_snoc]; omega, by simp; omega⟩, by simp; omega, rfl, rfl, ?_⟩
  refine Eq.trans (b := [.row true T.uint32 1 _, .row true T.uint32 1 (Ψ .lims vl)]) rfl ?_
  rw [← scat_snoc]; rfl
 ·have hlt : w.length = a.length + 1 := by have := h; simp only [wz] at this; omega
  obtain ⟨K0, hK0⟩ : ∃ K0, K0 = w.length - vl.length := ⟨_, rfl⟩
  have hw1 : Ω .wrap .i64 (Ω .ci w.length - Ω .ci vl.length) = Ω .ci K0 := by rw [wrap_sub (by omega) (by omega), hK0]
  refine nx ?_
  rw [hw1]
  refine ⟨ci_nonneg _, Int.le_refl _, by simp only [wz]; omega, by simp only [wz]; omega, ?_⟩
  refine LoopG.intro (σ := Nat × List Nat × List Nat) [6, 7, 9, 11, 12, 13] [1050, 1051, 1052]
   (fun x => [.d (.i .i64 (Ω .ci s)), .own 1051 1, .own 1050 1, .d (.i .i64 (Ω .ci vl.length)), .own 1052 1, .d (.i .i64 (Ω .wrap .i64 (Ω .ci x.1 - 1)))])
   (fun x => [.row true T.uint32 1 (Ψ .lims x.2.1), .row true T.uint32 1 (Ψ .lims vl), .row true T.uint32 1 (Ψ .lims x.2.2)])
   (fun x => x.1 ≤ K0 ∧ lim x.2.1 ∧ x.2.1.length = a.length + 1 ∧ lim x.2.2 ∧ x.2.2.length = K0 ∧ nv x.2.1 + nv vl * (4294967296 ^ x.1 * nv (x.2.2.drop x.1)) = nv a * 2 ^ s ∧ nv (x.2.1.drop x.1) < nv vl)
   (fun x => x.1) (K0, w, List.replicate K0 0) [1050, 1051, 1704] ⟨Nat.le_refl _, hw, hlt, lim_rep _, by simp, by simp [hwn], ?_⟩ ⟨rfl, ?_, ?_⟩ ?_
  ·simp only
   have h1 := nv_split w K0 (by omega)
   rw [hwn] at h1
   have h2 := Nat.mul_lt_mul_of_pos_right (nv_lt ha.lim) (Nat.pow_pos (n := s) (show 0 < 2 by omega))
   rw [show a.length = K0 + (n + 1) by omega, Nat.pow_add, Nat.mul_assoc] at h2
   have h3 : 2 ^ s ≤ 2147483648 := Nat.pow_le_pow_right (n := 2) (by omega) (show s ≤ 31 by omega)
   have h4 := Nat.mul_le_mul_left (4294967296 ^ (n + 1)) h3
   have h5 := hst.1
   rw [hvn]
   rcases Nat.lt_or_ge (nv (w.drop K0)) (nv b * 2 ^ s) with c | c
   ·exact c
   ·have h6 := Nat.mul_le_mul_left (4294967296 ^ K0) (show 4294967296 ^ (n + 1) * 2 ^ s ≤ nv (w.drop K0) by omega)
    omega
  ·refine Eq.trans (b := [.d (.i .i64 (Ω .ci s)), .own 1051 1, .own 1050 1, .d (.i .i64 (Ω .ci vl.length)), .own 1052 1, .d (.i .i64 _)]) rfl ?_
   rfl
  ·refine Eq.trans (b := [.row true T.uint32 1 (Ψ .lims w), .row true T.uint32 1 (Ψ .lims vl), .row true T.uint32 1 _]) rfl ?_
   rw [← srep_lims]; rfl
  rintro ⟨k, w, q⟩ ⟨hk, hwlim, hwlen, hqlim, hqlen, hinv, hrem⟩
  simp only at hk hwlim hwlen hqlim hqlen hinv hrem
  refine nx ?_
  refine BrG.split (fun h => ?_) (fun h => ?_)
  ·rw [wrap64 (by simp only [wz]; omega) (by simp only [wz]; omega)] at h
   have hk0 : 0 < k := by have := h; simp only [wz] at this; omega
   obtain ⟨j, rfl⟩ : ∃ j, k = j + 1 := ⟨k - 1, by omega⟩
   have e1 : Ω .wrap .i64 (Ω .ci (j + 1) - 1) = Ω .ci j := wrap_pred (by omega) (by omega)
   rw [e1]
   have hWl : ((w.drop j).take (n + 3)).length = n + 3 := by simp; omega
   obtain ⟨x2, hx2⟩ : ∃ x, w[j + (n + 2)]? = some x := ⟨_, List.getElem?_eq_getElem (by omega)⟩
   obtain ⟨x1, hx1⟩ : ∃ x, w[j + (n + 1)]? = some x := ⟨_, List.getElem?_eq_getElem (by omega)⟩
   obtain ⟨x0, hx0⟩ : ∃ x, w[j + n]? = some x := ⟨_, List.getElem?_eq_getElem (by omega)⟩
   obtain ⟨v1, hv1⟩ : ∃ x, vl[n + 1]? = some x := ⟨_, List.getElem?_eq_getElem (by omega)⟩
   obtain ⟨v0, hv0⟩ : ∃ x, vl[n]? = some x := ⟨_, List.getElem?_eq_getElem (by omega)⟩
   have l2 := lim_get hwlim hx2
   have l1 := lim_get hwlim hx1
   have l0 := lim_get hwlim hx0
   have lv1 := lim_get hvlim hv1
   have lv0 := lim_get hvlim hv0
   have i1 : Ω .wrap .i64 (Ω .ci j + Ω .ci vl.length) = Ω .ci (j + (n + 2)) := by rw [wrap_add (by omega), hvlen]
   have i2 : Ω .wrap .i64 (Ω .ci (j + (n + 2)) - 1) = Ω .ci (j + (n + 1)) := wrap_pred (by omega) (by omega)
   have i3 : Ω .wrap .i64 (Ω .ci vl.length - 1) = Ω .ci (n + 1) := by rw [wrap_pred (by omega) (by omega), hvlen]; rfl
   have i4 : Ω .wrap .i64 (Ω .ci vl.length - 2) = Ω .ci n := by
    rw [wrap64 (by simp only [wz]; omega) (by simp only [wz]; omega)]; simp only [wz]; omega
   have i5 : Ω .wrap .i64 (Ω .ci (j + (n + 2)) - 2) = Ω .ci (j + n) := by
    rw [wrap64 (by simp only [wz]; omega) (by simp only [wz]; omega)]; simp only [wz]; omega
   refine nx ?_
   refine own_lims (j + (n + 2)) x2 i1 hx2 ?_ ?_ ?_
   ·exact Nat.le_refl _
   ·exact rfl
   refine nx ?_
   refine own_lims (j + (n + 1)) x1 (by rw [i1]; exact i2) hx1 ?_ ?_ ?_
   ·exact Nat.le_refl _
   ·exact rfl
   refine nx ?_
   have hT : Ω .ior .u64 (Ω .ishl .u64 (Ω .wrap .u64 (Ω .ci x2)) 32) (Ω .wrap .u64 (Ω .ci x1)) = Ω .ci (x2 * 4294967296 + x1) := by
    rw [wrapu64_ci, wrapu64_ci, Nat.mod_eq_of_lt (by omega), Nat.mod_eq_of_lt (by omega), ishl32, wrapu64_ci, Nat.mod_eq_of_lt (by omega), ior64_ci (by omega) (by omega), or_shl _ l1]
   have hv1w : Ω .wrap .u64 (Ω .ci v1) = Ω .ci v1 := by rw [wrapu64_ci, Nat.mod_eq_of_lt (by omega)]
   rw [hT]
   obtain ⟨T', hT'⟩ : ∃ t, t = x2 * 4294967296 + x1 := ⟨_, rfl⟩
   have hTl : T' < 18446744073709551616 := by omega
   rw [← hT']
   refine own_lims (n + 1) v1 i3 hv1 ?_ ?_ ?_
   ·exact Nat.le_refl _
   ·exact rfl
   refine nx ?_
   have hv1b : 2147483648 ≤ v1 := by
    have h1 := nv_take_succ hv1
    rw [show n + 1 + 1 = vl.length by omega, List.take_length, hvn] at h1
    have h2 := nv_lt (lim_take hvlim (n + 1))
    rw [List.length_take, Nat.min_eq_left (by omega)] at h2
    have h3 := hst.1
    rcases Nat.lt_or_ge v1 2147483648 with c | c
    ·have h4 := Nat.mul_le_mul_left (4294967296 ^ (n + 1)) (show v1 + 1 ≤ 2147483648 by omega)
     rw [Nat.mul_add] at h4
     omega
    ·exact c
   rw [hv1w]
   refine ⟨by simp only [wz]; omega, ?_⟩
   refine own_lims (n + 1) v1 i3 hv1 ?_ ?_ ?_
   ·exact Nat.le_refl _
   ·exact rfl
   refine nx ?_
   rw [hv1w]
   refine ⟨by simp only [wz]; omega, ?_⟩
   obtain ⟨R, hR⟩ : ∃ R, R = nv (w.drop j) := ⟨_, rfl⟩
   have hRs : R < 4294967296 * nv vl := by
    obtain ⟨y, hy⟩ : ∃ y, w[j]? = some y := ⟨_, List.getElem?_eq_getElem (by omega)⟩
    have hyl := lim_get hwlim hy
    rw [hR, nv_drop hy]
    omega
   have hVlt : nv vl < 4294967296 ^ (n + 2) := by have := nv_lt hvlim; rwa [hvlen] at this
   have hsplit := nv_split (w.drop j) (n + 3) (by simp; omega)
   have hZ0 : nv ((w.drop j).drop (n + 3)) = 0 := by
    rcases Nat.eq_zero_or_pos (nv ((w.drop j).drop (n + 3))) with c | c
    ·exact c
    ·exfalso
     have h1 := Nat.mul_le_mul_left (4294967296 ^ (n + 3)) c
     have h2 : 4294967296 ^ (n + 3) = 4294967296 ^ (n + 2) * 4294967296 := Nat.pow_succ _ _
     omega
   rw [hZ0, Nat.mul_zero, Nat.add_zero] at hsplit
   have hRW : R = nv ((w.drop j).take n) + 4294967296 ^ n * x0 + 4294967296 ^ n * 4294967296 * x1 + 4294967296 ^ n * 4294967296 * 4294967296 * x2 := by
    have g0 : (w.drop j)[n]? = some x0 := by rw [List.getElem?_drop]; exact hx0
    have g1 : (w.drop j)[n + 1]? = some x1 := by rw [List.getElem?_drop]; exact hx1
    have g2 : (w.drop j)[n + 2]? = some x2 := by rw [List.getElem?_drop]; exact hx2
    rw [hR, hsplit, nv_take_succ g2, nv_take_succ g1, nv_take_succ g0]
    simp only [Nat.pow_succ]
   have hVW : nv vl = nv (vl.take n) + 4294967296 ^ n * v0 + 4294967296 ^ n * 4294967296 * v1 := by
    have := nv_take_succ hv1
    rw [show n + 1 + 1 = vl.length by omega, List.take_length, nv_take_succ hv0, Nat.pow_succ] at this
    exact this
   have hlo : nv ((w.drop j).take n) < 4294967296 ^ n := by
    have := nv_lt (lim_take (lim_drop hwlim j) n)
    rwa [List.length_take, Nat.min_eq_left (by simp; omega)] at this
   have hlo' : nv (vl.take n) < 4294967296 ^ n := by
    have := nv_lt (lim_take hvlim n)
    rwa [List.length_take, Nat.min_eq_left (by omega)] at this
   have kn : Kn R T' x0 (nv ((w.drop j).take n)) (nv vl) v1 v0 (nv (vl.take n)) (4294967296 ^ n) := by
    refine ⟨?_, hlo, ?_, hlo', l0, lv0, hv1b, lv1, hRs⟩
    ·rw [hRW, hT']
     generalize 4294967296 ^ n = M
     rw [Nat.add_mul, Nat.add_mul, Nat.add_mul]
     have q1 : x2 * 4294967296 * 4294967296 * M = M * 4294967296 * 4294967296 * x2 := by
      rw [Nat.mul_comm _ M, ← Nat.mul_assoc, ← Nat.mul_assoc, Nat.mul_right_comm M x2, Nat.mul_right_comm _ x2]
     have q2 : x1 * 4294967296 * M = M * 4294967296 * x1 := by rw [Nat.mul_comm _ M, ← Nat.mul_assoc, Nat.mul_right_comm]
     rw [q1, q2, Nat.mul_comm x0]
     omega
    ·rw [hVW]
     generalize 4294967296 ^ n = M
     rw [Nat.add_mul]
     have q2 : v1 * 4294967296 * M = M * 4294967296 * v1 := by rw [Nat.mul_comm _ M, ← Nat.mul_assoc, Nat.mul_right_comm]
     rw [q2, Nat.mul_comm v0]
     omega
   have hq : R / nv vl ≤ T' / v1 := kn.first
   rw [tdiv_ci, tmod_ci, wrapu64_ci]
   refine LoopG.intro (σ := Nat × Nat) [6, 7, 9, 11, 12, 13, 15, 16] [1050, 1051, 1052]
    (fun x => [.d (.i .i64 (Ω .ci s)), .own 1051 1, .own 1050 1, .d (.i .i64 (Ω .ci vl.length)), .own 1052 1, .d (.i .i64 (Ω .ci j)), .d (.i .u64 (Ω .ci x.1)), .d (.i .u64 (Ω .ci x.2))])
    (fun x => [.row true T.uint32 1 (Ψ .lims w), .row true T.uint32 1 (Ψ .lims vl), .row true T.uint32 1 (Ψ .lims q)])
    (fun x => x.1 * v1 + x.2 = T' ∧ R / nv vl ≤ x.1 ∧ x.2 < 4294967296)
    (fun x => x.1) (T' / v1, T' % v1) [1050, 1051, 1052] ⟨by have := Nat.div_add_mod T' v1; rw [Nat.mul_comm] at this; exact this, hq, Nat.lt_trans (Nat.mod_lt _ (by omega)) lv1⟩ ⟨rfl, ?_, rfl⟩ ?_
   ·refine Eq.trans (b := [.d (.i .i64 (Ω .ci s)), .own 1051 1, .own 1050 1, .d (.i .i64 (Ω .ci vl.length)), .own 1052 1, .d (.i .i64 (Ω .ci j)), .d (.i .u64 _), .d (.i .u64 _)]) rfl ?_
    rw [wrapu64_ci, Nat.mod_eq_of_lt (Nat.lt_of_le_of_lt (Nat.div_le_self _ _) hTl)]
   rintro ⟨g, r⟩ ⟨hg, hge, hr⟩
   simp only at hg hge hr
   have hg64 : g < 18446744073709551616 := by
    have := Nat.le_mul_of_pos_right g (show 0 < v1 by omega)
    omega
   refine nx ?_
   refine BrG.split (fun h => ?_) (fun h => ?_)
   ·have hbig : 4294967296 ≤ g := by have := h; simp only [wz] at this; omega
    refine nx ?_
    refine own_lims (n + 1) v1 i3 hv1 ?_ ?_ ?_
    ·exact Nat.le_refl _
    ·exact rfl
    have hRq : R / nv vl < 4294967296 := (Nat.div_lt_iff_lt_mul (by omega)).2 hRs
    have hgq : R / nv vl ≤ g - 1 := by omega
    refine nx ?_
    have hgm : Ω .wrap .u64 (Ω .ci g - 1) = Ω .ci (g - 1) := by
     rw [show (1 : Int) = Ω .ci 1 from rfl, ci_sub (by omega), wrapu64_ci, Nat.mod_eq_of_lt (by omega)]
    have hgs : (g - 1) * v1 + (r + v1) = T' := by
     obtain ⟨g', rfl⟩ : ∃ g', g = g' + 1 := ⟨g - 1, by omega⟩
     rw [Nat.add_mul] at hg
     simp only [Nat.add_sub_cancel]
     omega
    rw [hgm, hv1w, ci_add, wrapu64_ci, Nat.mod_eq_of_lt (by omega)]
    refine BrG.split (fun h => ?_) (fun h => ?_)
    ·have hr2 : 4294967296 ≤ r + v1 := by have := h; simp only [wz] at this; omega
     obtain ⟨hGl, hGV⟩ := kn.broke hgs hr2
     obtain ⟨G, hG⟩ : ∃ G, G = g - 1 := ⟨_, rfl⟩
     rw [← hG] at hGl hGV hgq ⊢
     refine nx ?_
     rw [i1, wrap_succ (by omega)]
     have hwsp : w = w.take j ++ (w.drop j).take (n + 3) ++ w.drop (j + (n + 3)) := by
      rw [List.append_assoc, ← List.drop_drop, List.take_append_drop, List.take_append_drop]
     have hless := less_own (w.take j) ((w.drop j).take (n + 3)) (w.drop (j + (n + 3))) vl G (lim_take (lim_drop hwlim _) _) hvlim (by rw [← hwsp]; omega) (by omega) hGl
     rw [← hwsp, hWl, show (w.take j).length = j by simp; omega, ← hsplit, ← hR] at hless
     have hV0 : 0 < nv vl := by omega
     have hVm : nv vl < 4294967296 ^ (n + 3) := Nat.lt_of_lt_of_le hVlt (B_mono (by omega))
     refine ⟨ci_nonneg _, by simp only [wz]; omega, by simp only [wz]; omega, Int.le_refl _, (by first | exact rfl | exact fun _ => rfl), ?_⟩
     have hjm : j + (n + 2) + 1 - j = n + 3 := by omega
     by_cases hover : R < G * nv vl
     ·rw [decide_eq_true hover, if_pos hover] at hless
      obtain ⟨hG0, o1, o2, o3⟩ := guess_over hGV hover hVm
      obtain ⟨w2, hw2⟩ : ∃ l, l = w.take j ++ ln (n + 3) (R + 4294967296 ^ (n + 3) - G * nv vl) ++ w.drop (j + (n + 3)) := ⟨_, rfl⟩
      obtain ⟨w3, hw3⟩ : ∃ l, l = w.take j ++ ln (n + 3) (R + nv vl - G * nv vl) ++ w.drop (j + (n + 3)) := ⟨_, rfl⟩
      rw [← hw2] at hless
      have hw2l : w2.length = w.length := by rw [hw2]; simp [len_ln]; omega
      have hback := back_own (w.take j) (ln (n + 3) (R + 4294967296 ^ (n + 3) - G * nv vl)) (w.drop (j + (n + 3))) vl (lim_ln _ _) hvlim (by rw [← hw2]; omega) (by rw [len_ln]; omega)
      rw [← hw2, len_ln, nv_ln (by omega), o1, show (w.take j).length = j by simp; omega, ← hw3] at hback
      have hround := long_round hwlim (j := j) (m := n + 3) (by omega) (by omega) hqlim hZ0 (by omega) (show G - 1 < 4294967296 by omega) (by rw [← hsplit, ← hR]; exact o2) hinv o3
      rw [← hw3] at hround
      refine ⟨_, _, hC2 _ _ _ _ _ (show Good P F.nat_less [.ref 0 1 j (j + (n + 2) + 1 - j), .own 1 1, .d (.i .u64 (Ω .ci G))] [.row true T.uint32 1 (Ψ .lims w), .row true T.uint32 1 (Ψ .lims vl)] _ _ from by rw [hjm]; exact hless), ?_⟩
      refine nx ?_
      rw [i1, wrap_succ (by omega)]
      refine ⟨ci_nonneg _, by simp only [wz]; omega, by simp only [wz]; omega, Int.le_refl _, (by first | exact rfl | exact fun _ => rfl), ?_⟩
      refine ⟨_, _, hC2 _ _ _ _ _ (show Good P F.nat_back [.ref 0 1 j (j + (n + 2) + 1 - j), .own 1 1] [.row true T.uint32 1 (Ψ .lims w2), .row true T.uint32 1 (Ψ .lims vl)] _ _ from by rw [hjm]; exact hback), ?_⟩
      refine nx ?_
      refine ⟨ci_nonneg _, by simp only [wz]; omega, by show j < q.length; omega, (j, w3, q.set j (G - 1)), [1050, 1051, 1052], ⟨by simp only; omega, hround.1, by simp only; rw [hround.2.1]; exact hwlen, hround.2.2.1, by simp only; rw [hround.2.2.2.1]; exact hqlen, hround.2.2.2.2.1, hround.2.2.2.2.2⟩, by simp only; omega, rfl, ?_, ?_⟩
      ·refine Eq.trans (b := [.d (.i .i64 (Ω .ci s)), .own 1051 1, .own 1050 1, .d (.i .i64 (Ω .ci vl.length)), .own 1052 1, .d (.i .i64 _)]) rfl ?_
       rw [wrap64 (by simp only [wz]; omega) (by simp only [wz]; omega)]
      ·refine Eq.trans (b := [.row true T.uint32 1 (Ψ .lims w3), .row true T.uint32 1 (Ψ .lims vl), .row true T.uint32 1 _]) rfl ?_
       rw [show (1 : Int) = Ω .ci 1 from rfl, ci_sub (by omega), wrapu64_ci, wrapu32_ci, Nat.mod_eq_of_lt (show G - 1 < 18446744073709551616 by omega), Nat.mod_eq_of_lt (by omega), sset_lims]
     ·simp only [decide_eq_false hover, if_neg hover, Nat.add_zero] at hless
      obtain ⟨o1, o2⟩ := guess_right hgq hover hV0
      obtain ⟨w2, hw2⟩ : ∃ l, l = w.take j ++ ln (n + 3) (R - G * nv vl) ++ w.drop (j + (n + 3)) := ⟨_, rfl⟩
      have hround := long_round hwlim (j := j) (m := n + 3) (by omega) (by omega) hqlim hZ0 (by omega) hGl (by rw [← hsplit, ← hR]; exact o1) hinv o2
      rw [← hw2] at hless hround
      refine ⟨_, _, hC2 _ _ _ _ _ (show Good P F.nat_less [.ref 0 1 j (j + (n + 2) + 1 - j), .own 1 1, .d (.i .u64 (Ω .ci G))] [.row true T.uint32 1 (Ψ .lims w), .row true T.uint32 1 (Ψ .lims vl)] _ _ from by rw [hjm]; exact hless), ?_⟩
      refine nx ?_
      refine ⟨ci_nonneg _, by simp only [wz]; omega, by show j < q.length; omega, (j, w2, q.set j G), [1050, 1051, 1052], ⟨by simp only; omega, hround.1, by simp only; rw [hround.2.1]; exact hwlen, hround.2.2.1, by simp only; rw [hround.2.2.2.1]; exact hqlen, hround.2.2.2.2.1, hround.2.2.2.2.2⟩, by simp only; omega, rfl, ?_, ?_⟩
      ·refine Eq.trans (b := [.d (.i .i64 (Ω .ci s)), .own 1051 1, .own 1050 1, .d (.i .i64 (Ω .ci vl.length)), .own 1052 1, .d (.i .i64 _)]) rfl ?_
       rw [wrap64 (by simp only [wz]; omega) (by simp only [wz]; omega)]
      ·refine Eq.trans (b := [.row true T.uint32 1 (Ψ .lims w2), .row true T.uint32 1 (Ψ .lims vl), .row true T.uint32 1 _]) rfl ?_
       rw [wrapu32_ci, Nat.mod_eq_of_lt hGl, sset_lims]
    ·have hr2 : r + v1 < 4294967296 := by have := h; simp only [wz] at this; omega
     refine nx ?_
     refine ⟨(g - 1, r + v1), [1050, 1051, 1052], ⟨hgs, hgq, hr2⟩, by simp only; omega, rfl, rfl, rfl⟩
   ·have hsm : g < 4294967296 := by have := h; simp only [wz] at this; omega
    refine nx ?_
    (generalize hq : Ω .lt (Ω .ci r) 4294967296 = q; refine BrG.split (fun h => ?_) (fun h => ?_) <;> subst hq)
    ·refine nx ?_
     refine own_lims n v0 i4 hv0 ?_ ?_ ?_
     ·exact Nat.le_refl _
     ·exact rfl
     refine nx ?_
     refine own_lims (j + n) x0 (by rw [i1]; exact i5) hx0 ?_ ?_ ?_
     ·exact Nat.le_refl _
     ·exact rfl
     refine nx ?_
     have hgv : g * v0 < 18446744073709551616 := by
      have := Nat.mul_le_mul (show g ≤ 4294967295 by omega) (show v0 ≤ 4294967295 by omega)
      omega
     have hL : Ω .wrap .u64 (Ω .ci g * Ω .wrap .u64 (Ω .ci v0)) = Ω .ci (g * v0) := by
      rw [wrapu64_ci, Nat.mod_eq_of_lt (by omega), ci_mul, wrapu64_ci, Nat.mod_eq_of_lt hgv]
     have hRt : Ω .ior .u64 (Ω .ishl .u64 (Ω .ci r) 32) (Ω .wrap .u64 (Ω .ci x0)) = Ω .ci (r * 4294967296 + x0) := by
      rw [wrapu64_ci, Nat.mod_eq_of_lt (by omega), ishl32, wrapu64_ci, Nat.mod_eq_of_lt (by omega), ior64_ci (by omega) (by omega), or_shl _ l0]
     rw [hL, hRt]
     refine BrG.split (fun h => ?_) (fun h => ?_)
     ·have hbig : r * 4294967296 + x0 < g * v0 := by have := h; simp only [wz] at this; omega
      have hRl : R < g * nv vl := kn.down hg hbig
      have hg0 : 0 < g := by
       rcases Nat.eq_zero_or_pos g with c | c
       ·subst c; omega
       ·exact c
      have hgq : R / nv vl ≤ g - 1 := by
       have := (Nat.div_lt_iff_lt_mul (by omega : 0 < nv vl)).2 hRl
       omega
      refine nx ?_
      refine own_lims (n + 1) v1 i3 hv1 ?_ ?_ ?_
      ·exact Nat.le_refl _
      ·exact rfl
      refine nx ?_
      have hgm : Ω .wrap .u64 (Ω .ci g - 1) = Ω .ci (g - 1) := by
       rw [show (1 : Int) = Ω .ci 1 from rfl, ci_sub (by omega), wrapu64_ci, Nat.mod_eq_of_lt (by omega)]
      have hgs : (g - 1) * v1 + (r + v1) = T' := by
       obtain ⟨g', rfl⟩ : ∃ g', g = g' + 1 := ⟨g - 1, by omega⟩
       rw [Nat.add_mul] at hg
       simp only [Nat.add_sub_cancel]
       omega
      rw [hgm, hv1w, ci_add, wrapu64_ci, Nat.mod_eq_of_lt (by omega)]
      refine BrG.split (fun h => ?_) (fun h => ?_)
      ·have hr2 : 4294967296 ≤ r + v1 := by have := h; simp only [wz] at this; omega
       obtain ⟨hGl, hGV⟩ := kn.broke hgs hr2
       obtain ⟨G, hG⟩ : ∃ G, G = g - 1 := ⟨_, rfl⟩
       rw [← hG] at hGl hGV hgq ⊢
       refine nx ?_
       rw [i1, wrap_succ (by omega)]
       have hwsp : w = w.take j ++ (w.drop j).take (n + 3) ++ w.drop (j + (n + 3)) := by
        rw [List.append_assoc, ← List.drop_drop, List.take_append_drop, List.take_append_drop]
       have hless := less_own (w.take j) ((w.drop j).take (n + 3)) (w.drop (j + (n + 3))) vl G (lim_take (lim_drop hwlim _) _) hvlim (by rw [← hwsp]; omega) (by omega) hGl
       rw [← hwsp, hWl, show (w.take j).length = j by simp; omega, ← hsplit, ← hR] at hless
       have hV0 : 0 < nv vl := by omega
       have hVm : nv vl < 4294967296 ^ (n + 3) := Nat.lt_of_lt_of_le hVlt (B_mono (by omega))
       refine ⟨ci_nonneg _, by simp only [wz]; omega, by simp only [wz]; omega, Int.le_refl _, (by first | exact rfl | exact fun _ => rfl), ?_⟩
       have hjm : j + (n + 2) + 1 - j = n + 3 := by omega
       by_cases hover : R < G * nv vl
       ·rw [decide_eq_true hover, if_pos hover] at hless
        obtain ⟨hG0, o1, o2, o3⟩ := guess_over hGV hover hVm
        obtain ⟨w2, hw2⟩ : ∃ l, l = w.take j ++ ln (n + 3) (R + 4294967296 ^ (n + 3) - G * nv vl) ++ w.drop (j + (n + 3)) := ⟨_, rfl⟩
        obtain ⟨w3, hw3⟩ : ∃ l, l = w.take j ++ ln (n + 3) (R + nv vl - G * nv vl) ++ w.drop (j + (n + 3)) := ⟨_, rfl⟩
        rw [← hw2] at hless
        have hw2l : w2.length = w.length := by rw [hw2]; simp [len_ln]; omega
        have hback := back_own (w.take j) (ln (n + 3) (R + 4294967296 ^ (n + 3) - G * nv vl)) (w.drop (j + (n + 3))) vl (lim_ln _ _) hvlim (by rw [← hw2]; omega) (by rw [len_ln]; omega)
        rw [← hw2, len_ln, nv_ln (by omega), o1, show (w.take j).length = j by simp; omega, ← hw3] at hback
        have hround := long_round hwlim (j := j) (m := n + 3) (by omega) (by omega) hqlim hZ0 (by omega) (show G - 1 < 4294967296 by omega) (by rw [← hsplit, ← hR]; exact o2) hinv o3
        rw [← hw3] at hround
        refine ⟨_, _, hC2 _ _ _ _ _ (show Good P F.nat_less [.ref 0 1 j (j + (n + 2) + 1 - j), .own 1 1, .d (.i .u64 (Ω .ci G))] [.row true T.uint32 1 (Ψ .lims w), .row true T.uint32 1 (Ψ .lims vl)] _ _ from by rw [hjm]; exact hless), ?_⟩
        refine nx ?_
        rw [i1, wrap_succ (by omega)]
        refine ⟨ci_nonneg _, by simp only [wz]; omega, by simp only [wz]; omega, Int.le_refl _, (by first | exact rfl | exact fun _ => rfl), ?_⟩
        refine ⟨_, _, hC2 _ _ _ _ _ (show Good P F.nat_back [.ref 0 1 j (j + (n + 2) + 1 - j), .own 1 1] [.row true T.uint32 1 (Ψ .lims w2), .row true T.uint32 1 (Ψ .lims vl)] _ _ from by rw [hjm]; exact hback), ?_⟩
        refine nx ?_
        refine ⟨ci_nonneg _, by simp only [wz]; omega, by show j < q.length; omega, (j, w3, q.set j (G - 1)), [1050, 1051, 1052], ⟨by simp only; omega, hround.1, by simp only; rw [hround.2.1]; exact hwlen, hround.2.2.1, by simp only; rw [hround.2.2.2.1]; exact hqlen, hround.2.2.2.2.1, hround.2.2.2.2.2⟩, by simp only; omega, rfl, ?_, ?_⟩
        ·refine Eq.trans (b := [.d (.i .i64 (Ω .ci s)), .own 1051 1, .own 1050 1, .d (.i .i64 (Ω .ci vl.length)), .own 1052 1, .d (.i .i64 _)]) rfl ?_
         rw [wrap64 (by simp only [wz]; omega) (by simp only [wz]; omega)]
        ·refine Eq.trans (b := [.row true T.uint32 1 (Ψ .lims w3), .row true T.uint32 1 (Ψ .lims vl), .row true T.uint32 1 _]) rfl ?_
         rw [show (1 : Int) = Ω .ci 1 from rfl, ci_sub (by omega), wrapu64_ci, wrapu32_ci, Nat.mod_eq_of_lt (show G - 1 < 18446744073709551616 by omega), Nat.mod_eq_of_lt (by omega), sset_lims]
       ·simp only [decide_eq_false hover, if_neg hover, Nat.add_zero] at hless
        obtain ⟨o1, o2⟩ := guess_right hgq hover hV0
        obtain ⟨w2, hw2⟩ : ∃ l, l = w.take j ++ ln (n + 3) (R - G * nv vl) ++ w.drop (j + (n + 3)) := ⟨_, rfl⟩
        have hround := long_round hwlim (j := j) (m := n + 3) (by omega) (by omega) hqlim hZ0 (by omega) hGl (by rw [← hsplit, ← hR]; exact o1) hinv o2
        rw [← hw2] at hless hround
        refine ⟨_, _, hC2 _ _ _ _ _ (show Good P F.nat_less [.ref 0 1 j (j + (n + 2) + 1 - j), .own 1 1, .d (.i .u64 (Ω .ci G))] [.row true T.uint32 1 (Ψ .lims w), .row true T.uint32 1 (Ψ .lims vl)] _ _ from by rw [hjm]; exact hless), ?_⟩
        refine nx ?_
        refine ⟨ci_nonneg _, by simp only [wz]; omega, by show j < q.length; omega, (j, w2, q.set j G), [1050, 1051, 1052], ⟨by simp only; omega, hround.1, by simp only; rw [hround.2.1]; exact hwlen, hround.2.2.1, by simp only; rw [hround.2.2.2.1]; exact hqlen, hround.2.2.2.2.1, hround.2.2.2.2.2⟩, by simp only; omega, rfl, ?_, ?_⟩
        ·refine Eq.trans (b := [.d (.i .i64 (Ω .ci s)), .own 1051 1, .own 1050 1, .d (.i .i64 (Ω .ci vl.length)), .own 1052 1, .d (.i .i64 _)]) rfl ?_
         rw [wrap64 (by simp only [wz]; omega) (by simp only [wz]; omega)]
        ·refine Eq.trans (b := [.row true T.uint32 1 (Ψ .lims w2), .row true T.uint32 1 (Ψ .lims vl), .row true T.uint32 1 _]) rfl ?_
         rw [wrapu32_ci, Nat.mod_eq_of_lt hGl, sset_lims]
      ·have hr2 : r + v1 < 4294967296 := by have := h; simp only [wz] at this; omega
       refine nx ?_
       refine ⟨(g - 1, r + v1), [1050, 1051, 1052], ⟨hgs, hgq, hr2⟩, by simp only; omega, rfl, rfl, rfl⟩
     ·have hno : g * v0 ≤ r * 4294967296 + x0 := by have := h; simp only [wz] at this; omega
      have hGV := kn.last hg hsm hno
      obtain ⟨G, hG⟩ : ∃ G, G = g := ⟨_, rfl⟩
      have hgq := hge
      have hGl := hsm
      rw [← hG] at hGl hGV hgq ⊢
      refine nx ?_
      rw [i1, wrap_succ (by omega)]
      have hwsp : w = w.take j ++ (w.drop j).take (n + 3) ++ w.drop (j + (n + 3)) := by
       rw [List.append_assoc, ← List.drop_drop, List.take_append_drop, List.take_append_drop]
      have hless := less_own (w.take j) ((w.drop j).take (n + 3)) (w.drop (j + (n + 3))) vl G (lim_take (lim_drop hwlim _) _) hvlim (by rw [← hwsp]; omega) (by omega) hGl
      rw [← hwsp, hWl, show (w.take j).length = j by simp; omega, ← hsplit, ← hR] at hless
      have hV0 : 0 < nv vl := by omega
      have hVm : nv vl < 4294967296 ^ (n + 3) := Nat.lt_of_lt_of_le hVlt (B_mono (by omega))
      refine ⟨ci_nonneg _, by simp only [wz]; omega, by simp only [wz]; omega, Int.le_refl _, (by first | exact rfl | exact fun _ => rfl), ?_⟩
      have hjm : j + (n + 2) + 1 - j = n + 3 := by omega
      by_cases hover : R < G * nv vl
      ·rw [decide_eq_true hover, if_pos hover] at hless
       obtain ⟨hG0, o1, o2, o3⟩ := guess_over hGV hover hVm
       obtain ⟨w2, hw2⟩ : ∃ l, l = w.take j ++ ln (n + 3) (R + 4294967296 ^ (n + 3) - G * nv vl) ++ w.drop (j + (n + 3)) := ⟨_, rfl⟩
       obtain ⟨w3, hw3⟩ : ∃ l, l = w.take j ++ ln (n + 3) (R + nv vl - G * nv vl) ++ w.drop (j + (n + 3)) := ⟨_, rfl⟩
       rw [← hw2] at hless
       have hw2l : w2.length = w.length := by rw [hw2]; simp [len_ln]; omega
       have hback := back_own (w.take j) (ln (n + 3) (R + 4294967296 ^ (n + 3) - G * nv vl)) (w.drop (j + (n + 3))) vl (lim_ln _ _) hvlim (by rw [← hw2]; omega) (by rw [len_ln]; omega)
       rw [← hw2, len_ln, nv_ln (by omega), o1, show (w.take j).length = j by simp; omega, ← hw3] at hback
       have hround := long_round hwlim (j := j) (m := n + 3) (by omega) (by omega) hqlim hZ0 (by omega) (show G - 1 < 4294967296 by omega) (by rw [← hsplit, ← hR]; exact o2) hinv o3
       rw [← hw3] at hround
       refine ⟨_, _, hC2 _ _ _ _ _ (show Good P F.nat_less [.ref 0 1 j (j + (n + 2) + 1 - j), .own 1 1, .d (.i .u64 (Ω .ci G))] [.row true T.uint32 1 (Ψ .lims w), .row true T.uint32 1 (Ψ .lims vl)] _ _ from by rw [hjm]; exact hless), ?_⟩
       refine nx ?_
       rw [i1, wrap_succ (by omega)]
       refine ⟨ci_nonneg _, by simp only [wz]; omega, by simp only [wz]; omega, Int.le_refl _, (by first | exact rfl | exact fun _ => rfl), ?_⟩
       refine ⟨_, _, hC2 _ _ _ _ _ (show Good P F.nat_back [.ref 0 1 j (j + (n + 2) + 1 - j), .own 1 1] [.row true T.uint32 1 (Ψ .lims w2), .row true T.uint32 1 (Ψ .lims vl)] _ _ from by rw [hjm]; exact hback), ?_⟩
       refine nx ?_
       refine ⟨ci_nonneg _, by simp only [wz]; omega, by show j < q.length; omega, (j, w3, q.set j (G - 1)), [1050, 1051, 1052], ⟨by simp only; omega, hround.1, by simp only; rw [hround.2.1]; exact hwlen, hround.2.2.1, by simp only; rw [hround.2.2.2.1]; exact hqlen, hround.2.2.2.2.1, hround.2.2.2.2.2⟩, by simp only; omega, rfl, ?_, ?_⟩
       ·refine Eq.trans (b := [.d (.i .i64 (Ω .ci s)), .own 1051 1, .own 1050 1, .d (.i .i64 (Ω .ci vl.length)), .own 1052 1, .d (.i .i64 _)]) rfl ?_
        rw [wrap64 (by simp only [wz]; omega) (by simp only [wz]; omega)]
       ·refine Eq.trans (b := [.row true T.uint32 1 (Ψ .lims w3), .row true T.uint32 1 (Ψ .lims vl), .row true T.uint32 1 _]) rfl ?_
        rw [show (1 : Int) = Ω .ci 1 from rfl, ci_sub (by omega), wrapu64_ci, wrapu32_ci, Nat.mod_eq_of_lt (show G - 1 < 18446744073709551616 by omega), Nat.mod_eq_of_lt (by omega), sset_lims]
      ·simp only [decide_eq_false hover, if_neg hover, Nat.add_zero] at hless
       obtain ⟨o1, o2⟩ := guess_right hgq hover hV0
       obtain ⟨w2, hw2⟩ : ∃ l, l = w.take j ++ ln (n + 3) (R - G * nv vl) ++ w.drop (j + (n + 3)) := ⟨_, rfl⟩
       have hround := long_round hwlim (j := j) (m := n + 3) (by omega) (by omega) hqlim hZ0 (by omega) hGl (by rw [← hsplit, ← hR]; exact o1) hinv o2
       rw [← hw2] at hless hround
       refine ⟨_, _, hC2 _ _ _ _ _ (show Good P F.nat_less [.ref 0 1 j (j + (n + 2) + 1 - j), .own 1 1, .d (.i .u64 (Ω .ci G))] [.row true T.uint32 1 (Ψ .lims w), .row true T.uint32 1 (Ψ .lims vl)] _ _ from by rw [hjm]; exact hless), ?_⟩
       refine nx ?_
       refine ⟨ci_nonneg _, by simp only [wz]; omega, by show j < q.length; omega, (j, w2, q.set j G), [1050, 1051, 1052], ⟨by simp only; omega, hround.1, by simp only; rw [hround.2.1]; exact hwlen, hround.2.2.1, by simp only; rw [hround.2.2.2.1]; exact hqlen, hround.2.2.2.2.1, hround.2.2.2.2.2⟩, by simp only; omega, rfl, ?_, ?_⟩
       ·refine Eq.trans (b := [.d (.i .i64 (Ω .ci s)), .own 1051 1, .own 1050 1, .d (.i .i64 (Ω .ci vl.length)), .own 1052 1, .d (.i .i64 _)]) rfl ?_
        rw [wrap64 (by simp only [wz]; omega) (by simp only [wz]; omega)]
       ·refine Eq.trans (b := [.row true T.uint32 1 (Ψ .lims w2), .row true T.uint32 1 (Ψ .lims vl), .row true T.uint32 1 _]) rfl ?_
        rw [wrapu32_ci, Nat.mod_eq_of_lt hGl, sset_lims]
    ·exfalso
     have := h; simp only [wz] at this; omega
  ·rw [wrap64 (by simp only [wz]; omega) (by simp only [wz]; omega)] at h
   have hk0 : k = 0 := by have := h; simp only [wz] at this; omega
   subst hk0
   simp only [Nat.pow_zero, Nat.one_mul, List.drop_zero] at hinv hrem
   have hVlt : nv vl < 4294967296 ^ (n + 2) := by have := nv_lt hvlim; rwa [hvlen] at this
   have hp2 : 0 < 2 ^ s := Nat.pow_pos (by omega)
   obtain ⟨f1, f2⟩ := divmod_unique (Q := nv q) (b := nv vl) (r := nv w) (X := nv a * 2 ^ s) (by rw [Nat.mul_comm]; omega) hrem
   rw [hvn, Nat.mul_div_mul_right _ _ hp2] at f1
   rw [hvn, Nat.mul_mod_mul_right] at f2
   have hwt : nv (w.take (n + 2)) = nv w := by
    have h1 := nv_split w (n + 2) (by omega)
    rcases Nat.eq_zero_or_pos (nv (w.drop (n + 2))) with c | c
    ·rw [c] at h1; omega
    ·have := Nat.mul_le_mul_left (4294967296 ^ (n + 2)) c
     omega
   have hg1 := trim_good q hqlim (by omega)
   have hg2 := shr_good (w.take (n + 2)) s ⟨lim_take hwlim _, by simp; omega⟩ hs32
   rw [← f1] at hg1
   rw [hwt, ← f2, Nat.mul_div_cancel _ hp2] at hg2
   refine nx ?_
   refine ⟨_, hC _ _ _ hg1, ?_⟩
   refine nx ?_
   refine ⟨ci_nonneg _, by simp only [wz]; omega, Int.le_refl _, (by first | exact rfl | exact fun _ => rfl), ?_⟩
   rw [ssub_lims, List.drop_zero, Nat.sub_zero, show Ω .leb (Ω .nadd 0 (Ω .nsub vl.length 0)) w.length = true from decide_eq_true (by show 0 + (vl.length - 0) ≤ w.length; omega), hvlen]
   obtain ⟨w5, hw5⟩ : ∃ l, l = w.take (n + 2) := ⟨_, rfl⟩
   rw [← hw5] at hg2 ⊢
   refine nx ?_
   refine ⟨_, hC _ _ _ hg2, ?_⟩
   exact nx trivial
end Go.K.S
end
