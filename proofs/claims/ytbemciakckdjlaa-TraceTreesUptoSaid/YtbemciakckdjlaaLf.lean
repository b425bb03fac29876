/-
  Parts of the proof, joined by a program of this work: KLessOwn, KKnuth, KRat, KLong, KCmp, KDivMod, KGcd, KMade, KRats, KArith, KPlus, KRatP, KRatQ, KVecs, KBoxs, KBox, KJoin.
-/
import Derived.Test.YtbemciakckdjlaaLe
section
/-
  Contracts: nat.less, nat.back, where the divisor is a row of the caller's. PRINTED out of KLess and KBack by a program of this work.
-/
namespace Go.K.S
open Go Go.K
set_option maxHeartbeats 1000000
set_option linter.unusedVariables false
set_option linter.unusedSimpArgs false

theorem less_own (A W Z v : List Nat) (t : Nat) (hW : lim W) (hv : lim v) (hl : (A ++ W ++ Z).length < 1099511627776) (hWl : W.length = v.length + 1) (ht : t < 4294967296) :
      Good P F.nat_less [.ref 0 1 A.length W.length, .own 1 1, .d (.i .u64 (Ω .ci t))] [.row true T.uint32 1 (Ψ .lims (A ++ W ++ Z)), .row true T.uint32 1 (Ψ .lims v)] (.d (.b (decide (nv W < t * nv v))))
        [.row true T.uint32 1 (Ψ .lims (A ++ ln W.length (nv W + (if nv W < t * nv v then 4294967296 ^ W.length else 0) - t * nv v) ++ Z)), .row true T.uint32 1 (Ψ .lims v)] := by
  obtain ⟨L0, hL0⟩ : ∃ L, L = A ++ W ++ Z := ⟨_, rfl⟩
  have hLl : L0.length = A.length + W.length + Z.length := by rw [hL0]; simp; omega
  rw [← hL0] at hl ⊢
  obtain ⟨n, hn⟩ : ∃ n, n = A.length := ⟨_, rfl⟩
  obtain ⟨m, hm⟩ : ∃ m, m = W.length := ⟨_, rfl⟩
  rw [← hn, ← hm]
  refine G.nat_less (fun C C2 hC hC2 => ?_) (hb := by simp)
  generalize hR : Ψ .lims (A ++ ln m (nv W + (if nv W < t * nv v then 4294967296 ^ m else 0) - t * nv v) ++ Z) = R
  generalize hB : decide (nv W < t * nv v) = B
  refine nx ?_
  refine LoopG.intro (σ := Nat × List Nat × List Nat × Nat × Nat) [0, 1, 2, 7, 8, 12, 13, 14] [0, 1]
    (fun s => [.ref 0 1 n m, .own 1 1, .d (.i .u64 (Ω .ci t)), .d (.i .u64 (Ω .ci s.2.2.2.1)), .d (.i .u32 (Ω .ci s.2.2.2.2)), .own 1 1, .d (.i .i64 (Ω .ci v.length)), .d (.i .i64 (Ω .ci s.1))])
    (fun s => [.row true T.uint32 1 (Ψ .lims s.2.1), .row true T.uint32 1 (Ψ .lims v)])
    (fun s => s.1 ≤ v.length ∧ s.2.1 = A ++ s.2.2.1 ++ (W.drop s.1 ++ Z) ∧ s.2.2.1.length = s.1 ∧ lim s.2.2.1 ∧ s.2.2.2.1 < 4294967296 ∧ s.2.2.2.2 ≤ 1 ∧
      nv s.2.2.1 + t * nv (v.take s.1) = nv (W.take s.1) + 4294967296 ^ s.1 * (s.2.2.2.1 + s.2.2.2.2))
    (fun s => v.length - s.1) (0, L0, [], 0, 0) [0, 1] ⟨Nat.zero_le _, by simp [hL0], rfl, lim_nil, by simp only; omega, by simp only; omega, by simp⟩ ⟨rfl, rfl, rfl⟩ ?_
  rintro ⟨i, L, s, c, o⟩ ⟨hi, hL, hsl, hsn, hc, ho, he⟩
  simp only at hi hL hsl hsn hc ho he
  have hLL : L.length = n + m + Z.length := by rw [hL]; simp [hsl]; omega
  have hiW : i < W.length := by omega
  obtain ⟨w, hw⟩ : ∃ w, W[i]? = some w := ⟨_, List.getElem?_eq_getElem hiW⟩
  have hwl := lim_get hW hw
  have hdrop : W.drop i = w :: W.drop (i + 1) := by
    obtain ⟨q, rfl⟩ := List.getElem?_eq_some_iff.1 hw
    exact List.drop_eq_getElem_cons q
  have hL' : L = (A ++ s) ++ w :: (W.drop (i + 1) ++ Z) := by rw [hL, hdrop]; simp
  have hat : L[n + i]? = some w := by rw [hL']; exact get_mid _ _ _ (by simp [hsl, hn])
  have hset : ∀ x, L.set (n + i) x = A ++ (s ++ [x]) ++ (W.drop (i + 1) ++ Z) := fun x => by
    rw [hL', set_mid _ _ _ _ (by simp [hsl, hn])]; simp
  refine nx ?_
  refine BrG.split (fun h => ?_) (fun h => ?_)
  · have hi2 : i < v.length := by have := h; simp only [wz] at this; omega
    obtain ⟨u, hu⟩ : ∃ u, v[i]? = some u := ⟨_, List.getElem?_eq_getElem hi2⟩
    have hul := lim_get hv hu
    have hfit := mul_fits ht hul (show 0 < 4294967296 by omega) hc
    refine nx ?_
    refine own_lims i u rfl hu ?_ ?_ ?_
    · exact Nat.le_refl _
    · exact rfl
    refine nx ?_
    refine ⟨ci_nonneg _, by simp only [wz]; omega, .i .u32 (Ω .ci w), by rw [w_nadd, sget_lims, hat]; rfl, Nat.le_refl _, (by first | exact rfl | exact fun _ => rfl), ?_⟩
    refine nx ?_
    have ht2 : Ω .wrap .u64 (Ω .wrap .u64 (Ω .ci t * Ω .wrap .u64 (Ω .ci u)) + Ω .ci c) = Ω .ci (t * u + c) := by
      rw [wrapu64_ci, Nat.mod_eq_of_lt (a := u) (by omega), ci_mul, wrapu64_ci, Nat.mod_eq_of_lt (by omega), ci_add, wrapu64_ci, Nat.mod_eq_of_lt (by omega)]
    rw [ht2, wrapu32_ci]
    refine ⟨_, hC _ _ _ (sub32_good w ((t * u + c) % 4294967296) o hwl (Nat.mod_lt _ (by omega)) ho), ?_⟩
    have hx : (4294967296 + w - (t * u + c) % 4294967296 - o) % 4294967296 < 4294967296 := Nat.mod_lt _ (by omega)
    have hb : (4294967296 + w - (t * u + c) % 4294967296 - o) % 4294967296 + (t * u + c) % 4294967296 + o = w + 4294967296 * (if w < (t * u + c) % 4294967296 + o then 1 else 0) := by
      split <;> omega
    have hb1 : (if w < (t * u + c) % 4294967296 + o then 1 else 0) ≤ 1 := by split <;> omega
    generalize (4294967296 + w - (t * u + c) % 4294967296 - o) % 4294967296 = x at *
    generalize (if w < (t * u + c) % 4294967296 + o then 1 else 0) = o' at *
    refine nx ?_
    refine ⟨ci_nonneg _, by simp only [wz]; omega, by simp only [wz, List.length_set]; omega, (i + 1, L.set (n + i) x, s ++ [x], (t * u + c) / 4294967296, o'), [0, 1], ⟨hi2, hset x, by simp [hsl], lim_append.2 ⟨hsn, by simp [lim_cons, lim_nil]; exact hx⟩, by simp only; omega, hb1, ?_⟩, by simp only; omega, rfl, ?_, ?_⟩
    · simp only
      rw [nv_snoc, hsl, nv_take_succ hu, nv_take_succ hw, Nat.pow_succ]
      exact less_step he rfl (Nat.mod_add_div _ _) hb
    · refine Eq.trans (b := [.ref 0 1 n m, .own 1 1, .d (.i .u64 (Ω .ci t)), .d (.i .u64 _), .d (.i .u32 (Ω .ci _)), .own 1 1, .d (.i .i64 (Ω .ci v.length)), .d (.i .i64 _)]) rfl ?_
      rw [wrap_succ (by omega), ishr32]
    · refine Eq.trans (b := [.row true T.uint32 1 _, .row true T.uint32 1 (Ψ .lims v)]) rfl ?_
      (try rw [w_nadd])
      rw [sset_lims]
  · have hi2 : i = v.length := by have := h; simp only [wz] at this; omega
    subst hi2
    refine nx ?_
    refine ⟨ci_nonneg _, by simp only [wz]; omega, .i .u32 (Ω .ci w), by rw [w_nadd, sget_lims, hat]; rfl, Nat.le_refl _, (by first | exact rfl | exact fun _ => rfl), ?_⟩
    refine nx ?_
    rw [wrapu32_ci, Nat.mod_eq_of_lt hc]
    refine ⟨_, hC _ _ _ (sub32_good w c o hwl hc ho), ?_⟩
    have hx : (4294967296 + w - c - o) % 4294967296 < 4294967296 := Nat.mod_lt _ (by omega)
    have hb : (4294967296 + w - c - o) % 4294967296 + c + o = w + 4294967296 * (if w < c + o then 1 else 0) := by
      split <;> omega
    have hb1 : (if w < c + o then 1 else 0) ≤ 1 := by split <;> omega
    generalize (4294967296 + w - c - o) % 4294967296 = x at *
    generalize (if w < c + o then 1 else 0) = o' at *
    have hWt : nv W = nv (W.take v.length) + 4294967296 ^ v.length * w := by
      have := nv_take_succ hw
      rw [← hWl, List.take_length] at this
      exact this
    have hfin : nv (s ++ [x]) + t * nv v = nv W + 4294967296 ^ m * o' := by
      rw [List.take_length] at he
      rw [nv_snoc, hsl, hWt, hm, hWl, Nat.pow_succ, Nat.mul_assoc]
      have e : 4294967296 ^ v.length * (x + c + o) = 4294967296 ^ v.length * (w + 4294967296 * o') := by rw [hb]
      rw [Nat.mul_add, Nat.mul_add, Nat.mul_add] at e
      rw [Nat.mul_add] at he
      omega
    have hsx : lim (s ++ [x]) := lim_append.2 ⟨hsn, by simp [lim_cons, lim_nil]; exact hx⟩
    have hsxl : (s ++ [x]).length = m := by simp [hsl]; omega
    have hlt := nv_lt hsx
    rw [hsxl] at hlt
    refine nx ?_
    have hRx : (o' = if nv W < t * nv v then 1 else 0) → Ψ .lims (L.set (n + v.length) x) = R := fun ho' => by
      rw [← hR, hset x]
      have e1 : s ++ [x] = ln m (nv (s ++ [x])) := by have := ln_eq _ hsx; rwa [hsxl] at this
      have e2 : nv (s ++ [x]) = nv W + (if nv W < t * nv v then 4294967296 ^ m else 0) - t * nv v := by
        rw [ho'] at hfin
        split at hfin <;> rename_i q <;> simp only [q, if_true, if_false] <;> omega
      rw [e1, e2, List.drop_of_length_le (by omega), List.nil_append]
    refine ⟨ci_nonneg _, by simp only [wz]; omega, by simp only [wz, List.length_set]; omega, BrG.split (fun h => ?_) (fun h => ?_)⟩
    · have : o' = 1 := by have : ¬ Ω .ci o' = 0 := by have := h; simp only [wz] at this ⊢; omega
                          simp only [wz] at this; omega
      subst this
      have hlt2 : nv W < t * nv v := by omega
      have := hRx (by rw [if_pos hlt2])
      have hB' : B = true := by rw [← hB]; exact decide_eq_true hlt2
      subst hB'
      refine nx ?_
      refine ⟨[], rfl, rfl, ?_⟩
      refine Eq.trans (b := [.row true T.uint32 1 _, .row true T.uint32 1 (Ψ .lims v)]) rfl ?_
      rw [w_nadd, sset_lims, this]
    · have : o' = 0 := by have : Ω .ci o' = 0 := by have := h; simp only [wz] at this ⊢; omega
                          simp only [wz] at this; omega
      subst this
      have hlt2 : ¬ nv W < t * nv v := by omega
      have := hRx (by rw [if_neg hlt2])
      have hB' : B = false := by rw [← hB]; exact decide_eq_false hlt2
      subst hB'
      refine nx ?_
      refine ⟨[], rfl, rfl, ?_⟩
      refine Eq.trans (b := [.row true T.uint32 1 _, .row true T.uint32 1 (Ψ .lims v)]) rfl ?_
      rw [w_nadd, sset_lims, this]
end Go.K.S
namespace Go.K.S
open Go Go.K
set_option maxHeartbeats 1000000
set_option linter.unusedVariables false
set_option linter.unusedSimpArgs false

theorem back_own (A W Z v : List Nat) (hW : lim W) (hv : lim v) (hl : (A ++ W ++ Z).length < 1099511627776) (hWl : W.length = v.length + 1) :
      Good P F.nat_back [.ref 0 1 A.length W.length, .own 1 1] [.row true T.uint32 1 (Ψ .lims (A ++ W ++ Z)), .row true T.uint32 1 (Ψ .lims v)] (.tup [])
        [.row true T.uint32 1 (Ψ .lims (A ++ ln W.length ((nv W + nv v) % 4294967296 ^ W.length) ++ Z)), .row true T.uint32 1 (Ψ .lims v)] := by
  obtain ⟨L0, hL0⟩ : ∃ L, L = A ++ W ++ Z := ⟨_, rfl⟩
  have hLl : L0.length = A.length + W.length + Z.length := by rw [hL0]; simp; omega
  rw [← hL0] at hl ⊢
  obtain ⟨n, hn⟩ : ∃ n, n = A.length := ⟨_, rfl⟩
  obtain ⟨m, hm⟩ : ∃ m, m = W.length := ⟨_, rfl⟩
  rw [← hn, ← hm]
  refine G.nat_back (fun C C2 hC hC2 => ?_) (hb := by simp)
  generalize hR : Ψ .lims (A ++ ln m ((nv W + nv v) % 4294967296 ^ m) ++ Z) = R
  refine nx ?_
  refine LoopG.intro (σ := Nat × List Nat × List Nat × Nat) [0, 1, 4, 7, 8, 9] [0, 1]
    (fun s => [.ref 0 1 n m, .own 1 1, .d (.i .u32 (Ω .ci s.2.2.2)), .own 1 1, .d (.i .i64 (Ω .ci v.length)), .d (.i .i64 (Ω .ci s.1))])
    (fun s => [.row true T.uint32 1 (Ψ .lims s.2.1), .row true T.uint32 1 (Ψ .lims v)])
    (fun s => s.1 ≤ v.length ∧ s.2.1 = A ++ s.2.2.1 ++ (W.drop s.1 ++ Z) ∧ s.2.2.1.length = s.1 ∧ lim s.2.2.1 ∧ s.2.2.2 ≤ 1 ∧
      nv s.2.2.1 + 4294967296 ^ s.1 * s.2.2.2 = nv (W.take s.1) + nv (v.take s.1))
    (fun s => v.length - s.1) (0, L0, [], 0) [0, 1] ⟨Nat.zero_le _, by simp [hL0], rfl, lim_nil, by simp only; omega, by simp⟩ ⟨rfl, rfl, rfl⟩ ?_
  rintro ⟨i, L, s, c⟩ ⟨hi, hL, hsl, hsn, hc, he⟩
  simp only at hi hL hsl hsn hc he
  have hLL : L.length = n + m + Z.length := by rw [hL]; simp [hsl]; omega
  have hiW : i < W.length := by omega
  obtain ⟨w, hw⟩ : ∃ w, W[i]? = some w := ⟨_, List.getElem?_eq_getElem hiW⟩
  have hwl := lim_get hW hw
  have hdrop : W.drop i = w :: W.drop (i + 1) := by
    obtain ⟨q, rfl⟩ := List.getElem?_eq_some_iff.1 hw
    exact List.drop_eq_getElem_cons q
  have hL' : L = (A ++ s) ++ w :: (W.drop (i + 1) ++ Z) := by rw [hL, hdrop]; simp
  have hat : L[n + i]? = some w := by rw [hL']; exact get_mid _ _ _ (by simp [hsl, hn])
  have hset : ∀ x, L.set (n + i) x = A ++ (s ++ [x]) ++ (W.drop (i + 1) ++ Z) := fun x => by
    rw [hL', set_mid _ _ _ _ (by simp [hsl, hn])]; simp
  refine nx ?_
  refine BrG.split (fun h => ?_) (fun h => ?_)
  · have hi2 : i < v.length := by have := h; simp only [wz] at this; omega
    obtain ⟨u, hu⟩ : ∃ u, v[i]? = some u := ⟨_, List.getElem?_eq_getElem hi2⟩
    have hul := lim_get hv hu
    refine nx ?_
    refine own_lims i u rfl hu ?_ ?_ ?_
    · exact Nat.le_refl _
    · exact rfl
    refine nx ?_
    refine ⟨ci_nonneg _, by simp only [wz]; omega, .i .u32 (Ω .ci w), by rw [w_nadd, sget_lims, hat]; rfl, Nat.le_refl _, (by first | exact rfl | exact fun _ => rfl), ?_⟩
    refine nx ?_
    refine ⟨_, hC _ _ _ (add32_good w u c hwl hul hc), ?_⟩
    have hstep := add_step (x := w) (y := u) he
    have hx : (w + u + c) % 4294967296 < 4294967296 := Nat.mod_lt _ (by omega)
    have hb1 : (w + u + c) / 4294967296 ≤ 1 := by omega
    generalize (w + u + c) % 4294967296 = x at *
    generalize (w + u + c) / 4294967296 = o' at *
    refine nx ?_
    refine ⟨ci_nonneg _, by simp only [wz]; omega, by simp only [wz, List.length_set]; omega, (i + 1, L.set (n + i) x, s ++ [x], o'), [0, 1], ⟨hi2, hset x, by simp [hsl], lim_append.2 ⟨hsn, by simp [lim_cons, lim_nil]; exact hx⟩, hb1, ?_⟩, by simp only; omega, rfl, ?_, ?_⟩
    · simp only
      rw [nv_snoc, hsl, nv_take_succ hu, nv_take_succ hw, Nat.pow_succ]
      exact hstep
    · refine Eq.trans (b := [.ref 0 1 n m, .own 1 1, .d (.i .u32 (Ω .ci _)), .own 1 1, .d (.i .i64 (Ω .ci v.length)), .d (.i .i64 _)]) rfl ?_
      rw [wrap_succ (by omega)]
    · refine Eq.trans (b := [.row true T.uint32 1 _, .row true T.uint32 1 (Ψ .lims v)]) rfl ?_
      (try rw [w_nadd])
      rw [sset_lims]
  · have hi2 : i = v.length := by have := h; simp only [wz] at this; omega
    subst hi2
    refine nx ?_
    refine ⟨ci_nonneg _, by simp only [wz]; omega, .i .u32 (Ω .ci w), by rw [w_nadd, sget_lims, hat]; rfl, Nat.le_refl _, (by first | exact rfl | exact fun _ => rfl), ?_⟩
    have hWt : nv W = nv (W.take v.length) + 4294967296 ^ v.length * w := by
      have := nv_take_succ hw
      rw [← hWl, List.take_length] at this
      exact this
    have hsx : lim (s ++ [(w + c) % 4294967296]) := lim_append.2 ⟨hsn, by simp [lim_cons, lim_nil]; exact Nat.mod_lt _ (by omega)⟩
    have hsxl : (s ++ [(w + c) % 4294967296]).length = m := by simp [hsl]; omega
    have hlt := nv_lt hsx
    rw [hsxl] at hlt
    have hfin : nv (s ++ [(w + c) % 4294967296]) + 4294967296 ^ m * ((w + c) / 4294967296) = nv W + nv v := by
      rw [List.take_length] at he
      rw [nv_snoc, hsl, hWt, hm, hWl, Nat.pow_succ, Nat.mul_assoc, Nat.add_assoc, ← Nat.mul_add, Nat.mod_add_div, Nat.mul_add]
      omega
    have hRx : Ψ .lims (L.set (n + v.length) ((w + c) % 4294967296)) = R := by
      rw [← hR, hset]
      have e1 := ln_eq _ hsx
      rw [hsxl] at e1
      have e2 : nv (s ++ [(w + c) % 4294967296]) = (nv W + nv v) % 4294967296 ^ m := by
        rw [← hfin, Nat.add_mul_mod_self_left, Nat.mod_eq_of_lt hlt]
      rw [e1, e2, List.drop_of_length_le (by omega), List.nil_append]
    refine nx ?_
    rw [ci_add, wrapu32_ci]
    refine ⟨ci_nonneg _, by simp only [wz]; omega, by simp only [wz, List.length_set]; omega, [], rfl, rfl, ?_⟩
    refine Eq.trans (b := [.row true T.uint32 1 _, .row true T.uint32 1 (Ψ .lims v)]) rfl ?_
    rw [w_nadd, sset_lims, hRx]
end Go.K.S
end
section
/-
  Plain law: how a digit of a quotient is guessed (Knuth).
-/
namespace Go.K
theorem kn_e (B x M : Nat) : B * x * B * M = B * (x * B * M) := by rw [Nat.mul_assoc B x B, Nat.mul_assoc B]
section
variable {R T W2 lo V v1 v2 lo' M g r : Nat}

/-- what is known of the window and of the divisor: R = (T, W2, ..), V = (v1, v2, ..) -/
structure Kn (R T W2 lo V v1 v2 lo' M : Nat) : Prop where
  hR : R = (T * 4294967296 + W2) * M + lo
  hlo : lo < M
  hV : V = (v1 * 4294967296 + v2) * M + lo'
  hlo' : lo' < M
  hW2 : W2 < 4294967296
  hv2 : v2 < 4294967296
  hv1 : 2147483648 ≤ v1
  hv1' : v1 < 4294967296
  hRV : R < 4294967296 * V

theorem Kn.bound (K : Kn R T W2 lo V v1 v2 lo' M) : T < 4294967296 * (v1 + 1) := by
  obtain ⟨hR, hlo, hV, hlo', hW2, hv2, hv1, hv1', hRV⟩ := K
  rcases Nat.lt_or_ge T (4294967296 * (v1 + 1)) with q | q
  · exact q
  exfalso
  have h0 : 4294967296 * (v1 + 1) * 4294967296 ≤ T * 4294967296 := Nat.mul_le_mul_right _ q
  have h1 := Nat.mul_le_mul_right M (Nat.le_trans h0 (Nat.le_add_right _ W2))
  have h2 := Nat.mul_le_mul_right M (show v1 * 4294967296 + v2 + 1 ≤ (v1 + 1) * 4294967296 by omega)
  rw [kn_e] at h1
  rw [Nat.add_mul _ 1] at h2
  omega
theorem Kn.first (K : Kn R T W2 lo V v1 v2 lo' M) : R / V ≤ T / v1 := by
  obtain ⟨hR, hlo, hV, hlo', hW2, hv2, hv1, hv1', hRV⟩ := K
  rw [Nat.le_div_iff_mul_le (by omega)]
  have h1 := Nat.div_mul_le_self R V
  generalize R / V = q at *
  rcases Nat.lt_or_ge T (q * v1) with c | c
  · exfalso
    have h2 : q * V = q * v1 * 4294967296 * M + q * (v2 * M + lo') := by
      rw [hV, Nat.add_mul, Nat.add_assoc, Nat.mul_add]; congr 1; ac_rfl
    have h3 := Nat.mul_le_mul_right (4294967296 * M) (show T + 1 ≤ q * v1 by omega)
    rw [Nat.add_mul, ← Nat.mul_assoc T, ← Nat.mul_assoc (q * v1)] at h3
    have h4 : R = T * 4294967296 * M + W2 * M + lo := by rw [hR, Nat.add_mul]
    have h5 := Nat.mul_le_mul_right M (show W2 + 1 ≤ 4294967296 by omega)
    rw [Nat.add_mul] at h5
    omega
  · exact c
theorem Kn.down (K : Kn R T W2 lo V v1 v2 lo' M) (h : g * v1 + r = T) (hg : r * 4294967296 + W2 < g * v2) : R < g * V := by
  obtain ⟨hR, hlo, hV, hlo', hW2, hv2, hv1, hv1', hRV⟩ := K
  have h2 : g * V = g * v1 * 4294967296 * M + g * v2 * M + g * lo' := by
    rw [hV, Nat.mul_add, Nat.add_mul, Nat.mul_add]; congr 1; congr 1 <;> ac_rfl
  have h3 := Nat.mul_le_mul_right M (show r * 4294967296 + W2 + 1 ≤ g * v2 by omega)
  rw [Nat.add_mul, Nat.add_mul] at h3
  have h4 : R = g * v1 * 4294967296 * M + r * 4294967296 * M + W2 * M + lo := by rw [hR, ← h, Nat.add_mul, Nat.add_mul, Nat.add_mul]
  omega
theorem Kn.big (K : Kn R T W2 lo V v1 v2 lo' M) : 4294967296 * M ≤ V := by
  obtain ⟨hR, hlo, hV, hlo', hW2, hv2, hv1, hv1', hRV⟩ := K
  have := Nat.mul_le_mul_right M (show 4294967296 ≤ v1 * 4294967296 + v2 by omega)
  omega
theorem Kn.last (K : Kn R T W2 lo V v1 v2 lo' M) (h : g * v1 + r = T) (hg : g < 4294967296) (hq : g * v2 ≤ r * 4294967296 + W2) : g * V < R + V := by
  have hb := K.big
  obtain ⟨hR, hlo, hV, hlo', hW2, hv2, hv1, hv1', hRV⟩ := K
  have h2 : g * V = g * v1 * 4294967296 * M + g * v2 * M + g * lo' := by
    rw [hV, Nat.mul_add, Nat.add_mul, Nat.mul_add]; congr 1; congr 1 <;> ac_rfl
  have h3 := Nat.mul_le_mul_right M hq
  rw [Nat.add_mul] at h3
  have h4 : R = g * v1 * 4294967296 * M + r * 4294967296 * M + W2 * M + lo := by rw [hR, ← h, Nat.add_mul, Nat.add_mul, Nat.add_mul]
  have h5 : g * lo' < 4294967296 * M := by
    have := Nat.mul_le_mul (show g + 1 ≤ 4294967296 by omega) (show lo' + 1 ≤ M by omega)
    rw [Nat.add_mul, Nat.mul_add] at this
    omega
  omega
theorem Kn.broke (K : Kn R T W2 lo V v1 v2 lo' M) (h : g * v1 + r = T) (hr : 4294967296 ≤ r) : g < 4294967296 ∧ g * V < R + V := by
  have hT := K.bound
  have hb := K.big
  obtain ⟨hR, hlo, hV, hlo', hW2, hv2, hv1, hv1', hRV⟩ := K
  have hg : g < 4294967296 := by
    rcases Nat.lt_or_ge g 4294967296 with q | q
    · exact q
    · have := Nat.mul_le_mul_right v1 q
      rw [Nat.mul_add] at hT
      omega
  refine ⟨hg, ?_⟩
  have h2 : g * V = g * v1 * 4294967296 * M + g * (v2 * M + lo') := by
    rw [hV, Nat.add_mul, Nat.add_assoc, Nat.mul_add]; congr 1; ac_rfl
  have h3 : g * (v2 * M + lo') ≤ 4294967296 * (4294967296 * M) := by
    refine Nat.mul_le_mul (by omega) ?_
    have := Nat.mul_le_mul_right M (show v2 + 1 ≤ 4294967296 by omega)
    rw [Nat.add_mul] at this
    omega
  have h4 : R = g * v1 * 4294967296 * M + r * 4294967296 * M + W2 * M + lo := by rw [hR, ← h, Nat.add_mul, Nat.add_mul, Nat.add_mul]
  have h5 := Nat.mul_le_mul_right (4294967296 * M) hr
  rw [← Nat.mul_assoc r] at h5
  omega
end
end Go.K
end
section
/-
  K, numbers: raw ones (a sign, two lists of limbs), what they say, the canonical one of a number. Plain Lean.
-/
namespace Go.K
open Go
set_option linter.unusedSimpArgs false


/-- signed -/
def sg (b : Bool) (n : Nat) : Int := if b then -(n : Int) else n
/-- what it says -/
def rv (r : RL) : Rat := mkRat (sg r.neg (nv r.num)) (nv r.den)
/-- limbs, and no more than so many -/
structure Rn (k : Nat) (r : RL) : Prop where
  ln : lim r.num
  ld : lim r.den
  kn : r.num.length ≤ k
  kd : r.den.length ≤ k
/-- a number of so many limbs at the most -/
structure Qn (k : Nat) (q : Rat) : Prop where
  n : q.num.natAbs < 4294967296 ^ k
  d : q.den < 4294967296 ^ k

theorem sg_natAbs (b : Bool) (n : Nat) : (sg b n).natAbs = n := by cases b <;> simp [sg]
theorem sg_zero (b : Bool) : sg b 0 = 0 := by cases b <;> rfl
theorem sg_eq_zero {b : Bool} {n : Nat} : sg b n = 0 ↔ n = 0 := by cases b <;> simp [sg]
theorem sg_neg_iff {b : Bool} {n : Nat} : sg b n < 0 ↔ b = true ∧ 0 < n := by cases b <;> simp [sg] <;> omega
theorem sg_not (b : Bool) (n : Nat) : sg (!b) n = - sg b n := by cases b <;> simp [sg]
theorem sg_mul (a b : Bool) (m n : Nat) : sg a m * sg b n = sg (a != b) (m * n) := by
  cases a <;> cases b <;> simp [sg, Int.neg_mul, Int.mul_neg]
theorem sg_add_same (b : Bool) (m n : Nat) : sg b m + sg b n = sg b (m + n) := by
  cases b <;> simp [sg] <;> omega
theorem sg_mul_nat (b : Bool) (m n : Nat) : sg b m * (n : Int) = sg b (m * n) := by
  cases b <;> simp [sg, Int.neg_mul]
theorem sg_add_diff {a b : Bool} {m n : Nat} (h : a ≠ b) (hmn : n ≤ m) : sg a m + sg b n = sg a (m - n) := by
  cases a <;> cases b <;> simp [sg] at h ⊢ <;> omega
theorem sg_div (b : Bool) {m n : Nat} (h : n ∣ m) : sg b m / (n : Int) = sg b (m / n) := by
  cases b
  · simp [sg]
  · simp only [sg, if_true]
    rw [Int.neg_ediv_of_dvd (Int.natCast_dvd_natCast.2 h)]
    simp

theorem rv_mk (b : Bool) (x y : List Nat) : rv ⟨b, x, y⟩ = mkRat (sg b (nv x)) (nv y) := rfl
theorem cr_zero : Ψ .cr 0 = ⟨false, [], [1]⟩ := by
  have h1 : Ψ .cn 0 = [] := cn_zero
  have h2 : Ψ .cn 1 = [1] := by rw [cn_pos (by omega)]; simp [cn_zero]
  simp [p_cr, h1, h2]
theorem cn_one : Ψ .cn 1 = [1] := by rw [cn_pos (by omega)]; simp [cn_zero]
theorem rv_cr (q : Rat) : rv (Ψ .cr q) = q := by
  simp only [rv, p_cr, nv_cn]
  have : sg (decide (q.num < 0)) q.num.natAbs = q.num := by
    unfold sg
    by_cases h : q.num < 0
    · simp [h]; omega
    · simp [h]; omega
  rw [this, Rat.mkRat_self]
theorem Rn_cr {k : Nat} {q : Rat} : Rn k (Ψ .cr q) ↔ Qn k q :=
  ⟨fun h => ⟨len_cn.1 h.kn, len_cn.1 h.kd⟩, fun h => ⟨lim_cn _, lim_cn _, len_cn.2 h.n, len_cn.2 h.d⟩⟩
theorem cr_inj {p q : Rat} (h : Ψ .cr p = Ψ .cr q) : p = q := by rw [← rv_cr p, h, rv_cr]

/-- of a sign, a numerator, a denominator -/
theorem cr_mk {b : Bool} {m n : Nat} (hm : m ≠ 0) (hn : n ≠ 0) : Ψ .cr (mkRat (sg b m) n) = ⟨b, Ψ .cn (m / m.gcd n), Ψ .cn (n / m.gcd n)⟩ := by
  have hg : n.gcd m = m.gcd n := Nat.gcd_comm _ _
  have h1 : (mkRat (sg b m) n).num = sg b (m / m.gcd n) := by
    rw [Rat.num_mkRat, if_neg hn, sg_natAbs, hg, sg_div _ (Nat.gcd_dvd_left m n)]
  have h2 : (mkRat (sg b m) n).den = n / m.gcd n := by
    rw [Rat.den_mkRat, if_neg hn, sg_natAbs, hg]
  have h3 : 0 < m / m.gcd n := Nat.div_pos (Nat.le_of_dvd (by omega) (Nat.gcd_dvd_left m n)) (Nat.gcd_pos_of_pos_left n (by omega))
  simp only [p_cr, h1, h2, sg_natAbs]
  congr 1
  cases b
  · simp only [sg]
    refine decide_eq_false (fun h => ?_)
    simp only [Bool.false_eq_true, if_false] at h
    omega
  · simp only [sg]
    refine decide_eq_true ?_
    simp only [if_true]
    omega
theorem mk_zero_num (b : Bool) (n : Nat) : mkRat (sg b 0) n = 0 := by rw [sg_zero]; exact Rat.zero_mkRat n
theorem mk_zero_den (x : Int) : mkRat x 0 = 0 := Rat.mkRat_zero x

theorem gcd_fits {m n k : Nat} (hm : m < k) (h : 0 < m) : m.gcd n < k := Nat.lt_of_le_of_lt (Nat.le_of_dvd h (Nat.gcd_dvd_left m n)) hm

/-- a number is no longer than what it was made of -/
theorem Qn_mk {x : Int} {n k : Nat} (hx : x.natAbs < 4294967296 ^ k) (hn : n < 4294967296 ^ k) (hk : 0 < k) : Qn k (mkRat x n) := by
  have hB : 1 < 4294967296 ^ k := Nat.one_lt_pow (by omega) (by omega)
  refine ⟨?_, ?_⟩
  · rw [Rat.num_mkRat]
    split
    · simp; omega
    · exact Nat.lt_of_le_of_lt (Int.natAbs_ediv_le_natAbs _ _) hx
  · rw [Rat.den_mkRat]
    split
    · exact hB
    · exact Nat.lt_of_le_of_lt (Nat.div_le_self _ _) hn
theorem pow_pos_B (k : Nat) : 0 < 4294967296 ^ k := Nat.pow_pos (by omega)
theorem B_mono {j k : Nat} (h : j ≤ k) : 4294967296 ^ j ≤ 4294967296 ^ k := Nat.pow_le_pow_right (by omega) h
theorem Qn.mono {j k : Nat} {q : Rat} (h : Qn j q) (hjk : j ≤ k) : Qn k q := ⟨Nat.lt_of_lt_of_le h.n (B_mono hjk), Nat.lt_of_lt_of_le h.d (B_mono hjk)⟩
theorem Rn.mono {j k : Nat} {r : RL} (h : Rn j r) (hjk : j ≤ k) : Rn k r := ⟨h.ln, h.ld, by have := h.kn; omega, by have := h.kd; omega⟩
theorem Qn_zero {k : Nat} (hk : 0 < k) : Qn k 0 := ⟨pow_pos_B k, Nat.one_lt_pow (by omega) (by omega)⟩
theorem Qn_one {k : Nat} (hk : 0 < k) : Qn k 1 := ⟨Nat.one_lt_pow (by omega) (by omega), Nat.one_lt_pow (by omega) (by omega)⟩
theorem Qn_rv {k : Nat} {r : RL} (h : Rn k r) (hk : 0 < k) : Qn k (rv r) := by
  refine Qn_mk ?_ ?_ hk
  · rw [sg_natAbs]; exact Nat.lt_of_lt_of_le (nv_lt h.ln) (B_mono h.kn)
  · exact Nat.lt_of_lt_of_le (nv_lt h.ld) (B_mono h.kd)
theorem lt_mul_pow {a b j k : Nat} (ha : a < 4294967296 ^ j) (hb : b < 4294967296 ^ k) : a * b < 4294967296 ^ (j + k) := by
  rw [Nat.pow_add]
  exact Nat.mul_lt_mul_of_lt_of_le ha (Nat.le_of_lt hb) (pow_pos_B k)
theorem Qn_mul {j k : Nat} {p q : Rat} (hp : Qn j p) (hq : Qn k q) (h : 0 < j + k) : Qn (j + k) (p * q) := by
  have e : p * q = mkRat (p.num * q.num) (p.den * q.den) := Rat.mul_def' p q
  rw [e]
  refine Qn_mk ?_ (lt_mul_pow hp.d hq.d) h
  rw [Int.natAbs_mul]
  exact lt_mul_pow hp.n hq.n
theorem Qn_neg {k : Nat} {q : Rat} (h : Qn k q) : Qn k (-q) := ⟨by simpa [wz] using h.n, by simpa [wz] using h.d⟩
theorem Qn_add {j k : Nat} {p q : Rat} (hp : Qn j p) (hq : Qn k q) : Qn (j + k + 1) (p + q) := by
  have e : p + q = mkRat (p.num * q.den + q.num * p.den) (p.den * q.den) := Rat.add_def' p q
  rw [e]
  have h1 := lt_mul_pow hp.n hq.d
  have h2 := lt_mul_pow hq.n hp.d
  rw [Nat.add_comm k j] at h2
  have h3 : (p.num * q.den + q.num * p.den).natAbs ≤ p.num.natAbs * q.den + q.num.natAbs * p.den := by
    refine Nat.le_trans (Int.natAbs_add_le _ _) ?_
    rw [Int.natAbs_mul, Int.natAbs_mul]
    simp
  refine Qn_mk ?_ ?_ (by omega)
  · rw [Nat.pow_succ]; omega
  · exact Nat.lt_of_lt_of_le (lt_mul_pow hp.d hq.d) (B_mono (by omega))
theorem Qn_sub {j k : Nat} {p q : Rat} (hp : Qn j p) (hq : Qn k q) : Qn (j + k + 1) (p - q) := by
  rw [Rat.sub_eq_add_neg]; exact Qn_add hp (Qn_neg hq)
theorem Qn_inv {k : Nat} {q : Rat} (h : Qn k q) (hk : 0 < k) : Qn k q⁻¹ := by
  by_cases hq : q = 0
  · subst hq; rw [Rat.inv_zero]; exact Qn_zero hk
  · have hn : q.num ≠ 0 := by simpa [wz] using hq
    rw [Rat.inv_def]
    have e : Rat.divInt (q.den : Int) q.num = mkRat (sg (decide (q.num < 0)) q.den) q.num.natAbs := by
      rcases Int.lt_or_gt_of_ne hn with c | c
      · have h1 : q.num = -(q.num.natAbs : Int) := by omega
        have h2 : sg (decide (q.num < 0)) q.den = -(q.den : Int) := by simp [sg, c]
        rw [h2, h1, Rat.divInt_neg']
        simp [Rat.divInt]
      · have h1 : q.num = (q.num.natAbs : Int) := by omega
        have h2 : sg (decide (q.num < 0)) q.den = (q.den : Int) := by
          have : ¬ q.num < 0 := by omega
          simp [sg, this]
        rw [h2, h1]
        simp [Rat.divInt]
    rw [e]
    exact Qn_mk (by rw [sg_natAbs]; exact h.d) h.n hk
theorem Qn_div {j k : Nat} {p q : Rat} (hp : Qn j p) (hq : Qn k q) (hk : 0 < k) : Qn (j + k) (p / q) := by
  rw [Rat.div_def]; exact Qn_mul hp (Qn_inv hq hk) (by omega)
end Go.K
namespace Go.K
open Go
theorem cI_neg {p q : Rat} : Ψ .cI p q < 0 ↔ p < q := by simp only [p_cI]; split <;> (try split) <;> simp_all
theorem cI_pos {p q : Rat} : 0 < Ψ .cI p q ↔ q < p := by
  simp only [p_cI]; split <;> (try split) <;> simp_all
  exact Rat.not_lt.2 (Rat.le_of_lt ‹_›)
theorem cI_nonpos {p q : Rat} : Ψ .cI p q ≤ 0 ↔ p ≤ q := by
  have := @cI_pos p q
  rw [← Rat.not_lt, ← this]; omega
theorem cI_nonneg {p q : Rat} : 0 ≤ Ψ .cI p q ↔ q ≤ p := by
  have := @cI_neg p q
  rw [← Rat.not_lt, ← this]; omega
theorem cI_zero {p q : Rat} : Ψ .cI p q = 0 ↔ p = q := by
  have h1 := @cI_nonpos p q
  have h2 := @cI_nonneg p q
  constructor
  · intro h
    exact Rat.le_antisymm (h1.1 (by omega)) (h2.1 (by omega))
  · rintro rfl
    have h3 := h1.2 Rat.le_refl
    have h4 := h2.2 Rat.le_refl
    omega
theorem sI_cI (q : Rat) : Ψ .sI q = Ψ .cI q 0 := rfl
theorem sI_neg {q : Rat} : Ψ .sI q < 0 ↔ q < 0 := cI_neg
theorem sI_pos {q : Rat} : 0 < Ψ .sI q ↔ 0 < q := cI_pos
theorem sI_nonpos {q : Rat} : Ψ .sI q ≤ 0 ↔ q ≤ 0 := cI_nonpos
theorem sI_nonneg {q : Rat} : 0 ≤ Ψ .sI q ↔ 0 ≤ q := cI_nonneg
theorem sI_zero {q : Rat} : Ψ .sI q = 0 ↔ q = 0 := cI_zero
theorem cI_sub (p q : Rat) : Ψ .sI (p - q) = Ψ .cI p q := by
  have h1 : p - q < 0 ↔ p < q := by constructor <;> intro h <;> grind
  have h2 : 0 < p - q ↔ q < p := by constructor <;> intro h <;> grind
  simp only [p_sI, p_cI]
  simp only [h1, h2]
theorem mk_lt {x y : Int} {m n : Nat} (hm : m ≠ 0) (hn : n ≠ 0) : mkRat x m < mkRat y n ↔ x * n < y * m := by
  have h1 : (0 : Rat) < (m : Rat) := by exact_mod_cast Nat.pos_of_ne_zero hm
  have h2 : (0 : Rat) < (n : Rat) := by exact_mod_cast Nat.pos_of_ne_zero hn
  rw [Rat.mkRat_eq_div, Rat.mkRat_eq_div, Rat.div_lt_iff h1]
  have e : (y : Rat) / (n : Rat) * (m : Rat) = (y : Rat) * (m : Rat) / (n : Rat) := by grind
  rw [e, Rat.lt_div_iff h2]
  exact_mod_cast Iff.rfl
theorem mk_lt_zero {x : Int} {m : Nat} (hm : m ≠ 0) : mkRat x m < 0 ↔ x < 0 := by
  have := mk_lt (x := x) (y := 0) hm (n := 1) (by omega)
  rw [Rat.zero_mkRat] at this
  rw [this]; simp
theorem zero_lt_mk {x : Int} {m : Nat} (hm : m ≠ 0) : 0 < mkRat x m ↔ 0 < x := by
  have := mk_lt (x := 0) (y := x) (m := 1) (by omega) hm
  rw [Rat.zero_mkRat] at this
  rw [this]; simp
theorem sI_mk {b : Bool} {m n : Nat} (hm : m ≠ 0) (hn : n ≠ 0) : Ψ .sI (mkRat (sg b m) n) = if b then -1 else 1 := by
  simp only [p_sI]
  simp only [mk_lt_zero hn, zero_lt_mk hn]
  cases b <;> simp [sg] <;> omega
/-- two numbers of one sign -/
theorem cI_mk {b : Bool} {m n m' n' : Nat} (hn : n ≠ 0) (hn' : n' ≠ 0) : Ψ .cI (mkRat (sg b m) n) (mkRat (sg b m') n') = (if b then -1 else 1) * Ψ .cmpI (m * n') (m' * n) := by
  simp only [p_cI, p_cmpI]
  simp only [mk_lt hn hn', mk_lt hn' hn, sg_mul_nat]
  generalize m * n' = x
  generalize m' * n = y
  cases b <;> simp only [sg, if_true, if_false, Bool.false_eq_true]
  · have e1 : ((x : Int) < y) = (x < y) := by simp
    have e2 : ((y : Int) < x) = (y < x) := by simp
    simp only [e1, e2, Int.one_mul]
  · have e1 : (-(x : Int) < -y) = (y < x) := by simp
    have e2 : (-(y : Int) < -x) = (x < y) := by simp
    simp only [e1, e2]
    by_cases h1 : x < y <;> by_cases h2 : y < x <;> simp [h1, h2] <;> omega
end Go.K
namespace Go.K
open Go
/-- the highest limb of a canonical list -/
theorem cn_top {n : Nat} (hn : n ≠ 0) : ∃ x m, (Ψ .cn n).length = m + 1 ∧ (Ψ .cn n)[m]? = some x ∧ x ≠ 0 ∧ x < 4294967296 ∧ n < 4294967296 ^ m * (x + 1) ∧ 4294967296 ^ m * x ≤ n ∧ n = nv ((Ψ .cn n).take m) + 4294967296 ^ m * x := by
  have hl : (Ψ .cn n).length ≠ 0 := fun h => hn (cn_eq_nil.1 (List.eq_nil_of_length_eq_zero h))
  obtain ⟨m, hm⟩ : ∃ m, (Ψ .cn n).length = m + 1 := ⟨(Ψ .cn n).length - 1, by omega⟩
  obtain ⟨x, hx⟩ : ∃ x, (Ψ .cn n)[m]? = some x := ⟨_, List.getElem?_eq_getElem (by omega)⟩
  have h0 := cano_cn n x (by rw [List.getLast?_eq_getElem?, hm]; exact hx)
  have h1 := nv_take_succ hx
  rw [← hm, List.take_length, nv_cn] at h1
  have h2 := nv_lt (lim_take (lim_cn n) m)
  rw [List.length_take, Nat.min_eq_left (by omega)] at h2
  refine ⟨x, m, hm, hx, h0, lim_get (lim_cn n) hx, ?_, by omega, h1⟩
  rw [Nat.mul_add]; omega
theorem len_cn_eq {m n : Nat} (h : m ≤ n) : (Ψ .cn m).length ≤ (Ψ .cn n).length := by
  rcases Nat.lt_or_ge (Ψ .cn n).length (Ψ .cn m).length with c | c
  · have := cn_len_lt c; omega
  · exact c
end Go.K
end
section
/-
  Contract: nat.long.
-/
namespace Go.K
/-- a round of the long division -/
theorem long_round {w q : List Nat} {j m V Q R' X : Nat} (hw : lim w) (hj : j + m ≤ w.length) (hjq : j < q.length) (hq : lim q) (hZ : nv ((w.drop j).drop m) = 0) (hR' : R' < 4294967296 ^ m) (hQ : Q < 4294967296)
    (h : nv ((w.drop j).take m) = Q * V + R') (hinv : nv w + V * (4294967296 ^ (j + 1) * nv (q.drop (j + 1))) = X) (hlt : R' < V) :
    lim (w.take j ++ ln m R' ++ w.drop (j + m)) ∧ (w.take j ++ ln m R' ++ w.drop (j + m)).length = w.length ∧ lim (q.set j Q) ∧ (q.set j Q).length = q.length ∧
      nv (w.take j ++ ln m R' ++ w.drop (j + m)) + V * (4294967296 ^ j * nv ((q.set j Q).drop j)) = X ∧ nv ((w.take j ++ ln m R' ++ w.drop (j + m)).drop j) < V := by
  have hlA : (w.take j).length = j := by rw [List.length_take]; omega
  have hZ' : nv (w.drop (j + m)) = 0 := by rw [List.drop_drop] at hZ; exact hZ
  have hval : nv (ln m R' ++ w.drop (j + m)) = R' := by rw [nv_append, nv_ln hR', hZ', Nat.mul_zero, Nat.add_zero]
  have hwv : nv w = nv (w.take j) + 4294967296 ^ j * (Q * V + R') := by
    rw [nv_split w j (by omega), nv_split (w.drop j) m (by simp; omega), hZ, Nat.mul_zero, Nat.add_zero, h]
  refine ⟨lim_append.2 ⟨lim_append.2 ⟨lim_take hw _, lim_ln _ _⟩, lim_drop hw _⟩, ?_, lim_set hq _ hQ, by simp, ?_, ?_⟩
  · simp [len_ln]; omega
  · rw [List.append_assoc, nv_append, hval, hlA, nv_set_drop hjq, ← hinv, hwv, Nat.pow_succ]
    generalize nv (q.drop (j + 1)) = d
    generalize 4294967296 ^ j = M
    generalize nv (w.take j) = a
    rw [Nat.mul_add M (Q * V), Nat.mul_add M Q, Nat.mul_add V, Nat.mul_assoc M 4294967296 d]
    have : V * (M * Q) = M * (Q * V) := by ac_rfl
    omega
  · have : (w.take j ++ ln m R' ++ w.drop (j + m)).drop j = ln m R' ++ w.drop (j + m) := by
      rw [List.append_assoc, List.drop_append_of_le_length (by omega), List.drop_of_length_le (by omega), List.nil_append]
    rw [this, hval]
    exact hlt
/-- what is left, where the guess was right -/
theorem guess_right {R V G : Nat} (h2 : R / V ≤ G) (h3 : ¬ R < G * V) (hV : 0 < V) : R = G * V + (R - G * V) ∧ R - G * V < V := by
  have h4 := (Nat.div_lt_iff_lt_mul hV).1 (Nat.lt_succ_of_le h2)
  rw [Nat.succ_mul] at h4
  omega
/-- what is left, where the guess was one too great -/
theorem guess_over {R V G M : Nat} (h1 : G * V < R + V) (h3 : R < G * V) (hV : V < M) : 0 < G ∧ (R + M - G * V + V) % M = R + V - G * V ∧ R = (G - 1) * V + (R + V - G * V) ∧ R + V - G * V < V := by
  have hG : 0 < G := by
    rcases Nat.eq_zero_or_pos G with c | c
    · subst c; omega
    · exact c
  obtain ⟨g, rfl⟩ : ∃ g, G = g + 1 := ⟨G - 1, by omega⟩
  rw [Nat.add_mul, Nat.one_mul] at *
  refine ⟨hG, ?_, ?_, by omega⟩
  · rw [show R + M - (g * V + V) + V = M + (R + V - (g * V + V)) by omega, Nat.add_mod_left, Nat.mod_eq_of_lt (by omega)]
  · simp only [Nat.add_sub_cancel]; omega
/-- the divisor, shifted till its highest bit is 1 -/
theorem shifted_top {b : List Nat} {n top s : Nat} (hb : lim b) (hn : b.length = n + 1) (ht : b[n]? = some top) (ht0 : top ≠ 0) (hs : s = 32 - bl top) :
    4294967296 ^ n * 2147483648 ≤ nv b * 2 ^ s ∧ nv b * 2 ^ s < 4294967296 ^ (n + 1) := by
  have htl := lim_get hb ht
  have hbl : bl top ≤ 32 := bl_le.2 htl
  have h1 := nv_take_succ ht
  rw [← hn, List.take_length] at h1
  have h2 := nv_lt (lim_take hb n)
  rw [List.length_take, Nat.min_eq_left (by omega)] at h2
  have hlo : 2 ^ (bl top - 1) ≤ top := by
    rcases Nat.lt_or_ge top (2 ^ (bl top - 1)) with q | q
    · have h3 := bl_le.2 q
      have h4 : bl top ≠ 0 := fun h => ht0 (bl_eq_zero.1 h)
      omega
    · exact q
  have h4 : bl top ≠ 0 := fun h => ht0 (bl_eq_zero.1 h)
  have hp1 : 2 ^ (bl top - 1) * 2 ^ s = 2147483648 := by rw [← Nat.pow_add, show bl top - 1 + s = 31 by omega]
  have hp2 : 2 ^ bl top * 2 ^ s = 4294967296 := by rw [← Nat.pow_add, show bl top + s = 32 by omega]
  have hhi := bl_lt top
  have a1 : 2147483648 ≤ top * 2 ^ s := by rw [← hp1]; exact Nat.mul_le_mul_right _ hlo
  have a2 : (top + 1) * 2 ^ s ≤ 4294967296 := by rw [← hp2]; exact Nat.mul_le_mul_right _ hhi
  rw [Nat.pow_succ]
  generalize 4294967296 ^ n = M at *
  refine ⟨?_, ?_⟩
  · have := Nat.mul_le_mul_left M a1
    rw [← Nat.mul_assoc] at this
    rw [h1, Nat.add_mul]
    omega
  · have h5 : nv b + 1 ≤ M * (top + 1) := by rw [h1, Nat.mul_add]; omega
    have h6 := Nat.mul_le_mul_right (2 ^ s) h5
    have h7 := Nat.mul_le_mul_left M a2
    rw [← Nat.mul_assoc] at h7
    have h8 : 0 < 2 ^ s := Nat.pow_pos (by omega)
    rw [Nat.add_mul] at h6
    omega
end Go.K
namespace Go.K.S
open Go Go.K
set_option maxHeartbeats 20000000
set_option maxRecDepth 20000
set_option linter.unusedVariables false
set_option linter.unusedSimpArgs false

def mdLong : FuncId → Bool := fun g => g == F.nat_Shl || g == F.nat_less || g == F.nat_back

theorem long_good (a b : List Nat) (ha : N a) (hb : N b) (hcb : cano b) (hb2 : 2 ≤ b.length) (hab : b.length ≤ a.length) (hal : a.length < 549755813888) :
    Good P F.nat_long [.d (dN Ψ a), .d (dN Ψ b)] [] (.tup [.d (dN Ψ (Ψ .cn (nv a / nv b))), .d (dN Ψ (Ψ .cn (nv a % nv b)))]) [] := by
  refine G1.nat_long mdLong fun C C2 hC hC2 => ?_
  obtain ⟨top, htop⟩ : ∃ t, b[b.length - 1]? = some t := ⟨_, List.getElem?_eq_getElem (by omega)⟩
  have htl := lim_get hb.lim htop
  have ht0 : top ≠ 0 := hcb top (by rw [List.getLast?_eq_getElem?]; exact htop)
  have hbl : bl top ≤ 32 := bl_le.2 htl
  have hbl0 : 0 < bl top := by rcases Nat.eq_zero_or_pos (bl top) with q | q
                               · exact absurd (bl_eq_zero.1 q) ht0
                               · exact q
  refine nx ?_
  refine idx_lims (b.length - 1) top (wrap_pred (by omega) (by have := hb.len; omega)) htop rfl ?_
  refine nx ?_
  refine ⟨_, hC _ _ _ (lead32_good top htl), ?_⟩
  obtain ⟨s, hs⟩ : ∃ s, s = 32 - bl top := ⟨_, rfl⟩
  rw [← hs]
  have hs32 : s < 32 := by omega
  refine nx ?_
  have hv := shl_own b s hb (by omega) (by omega)
  have hu := shl_own a s ha (by omega) (by omega)
  refine ⟨_, _, hC2 _ _ _ _ _ hv, ?_⟩
  refine nx ?_
  refine ⟨_, _, hC2 _ _ _ _ _ hu, ?_⟩
  refine nx ?_
  obtain ⟨n, hn⟩ : ∃ n, b.length = n + 2 := ⟨b.length - 2, by omega⟩
  have hst := shifted_top hb.lim (n := n + 1) (by omega) (by rw [show n + 1 = b.length - 1 by omega]; exact htop) ht0 hs
  obtain ⟨vl, hvl⟩ : ∃ vl, vl = Ψ .cn (nv b * 2 ^ s) := ⟨_, rfl⟩
  obtain ⟨ul, hul⟩ : ∃ ul, ul = Ψ .cn (nv a * 2 ^ s) := ⟨_, rfl⟩
  have hvn : nv vl = nv b * 2 ^ s := by rw [hvl, nv_cn]
  have hun : nv ul = nv a * 2 ^ s := by rw [hul, nv_cn]
  have hvlim : lim vl := by rw [hvl]; exact lim_cn _
  have hulim : lim ul := by rw [hul]; exact lim_cn _
  have hvlen : vl.length = n + 2 := by
    have h1 : vl.length ≤ n + 2 := by rw [hvl]; exact len_cn.2 hst.2
    have h2 : ¬ vl.length ≤ n + 1 := fun q => by
      rw [hvl] at q
      have := len_cn.1 q
      have h3 : 0 < 4294967296 ^ (n + 1) := Nat.pow_pos (by omega)
      have h4 := hst.1
      omega
    omega
  have hulen : ul.length ≤ a.length + 1 := by
    rw [hul]
    refine len_cn.2 ?_
    have h1 := nv_lt ha.lim
    have h2 : 2 ^ s ≤ 4294967296 := Nat.pow_le_pow_right (n := 2) (by omega) (show s ≤ 32 by omega)
    rw [Nat.pow_succ]
    exact Nat.lt_of_lt_of_le (Nat.mul_lt_mul_of_pos_right h1 (Nat.pow_pos (by omega))) (Nat.mul_le_mul_left _ h2)
  rw [← hvl, ← hul]
  refine LoopG.intro (σ := List Nat) [0, 6, 7, 9, 11] [1050, 1051]
    (fun w => [.d (dN Ψ a), .d (.i .i64 (Ω .ci s)), .own 1051 1, .own 1050 1, .d (.i .i64 (Ω .ci vl.length))])
    (fun w => [.row true T.uint32 1 (Ψ .lims w), .row true T.uint32 1 (Ψ .lims vl)])
    (fun w => lim w ∧ nv w = nv a * 2 ^ s ∧ w.length ≤ a.length + 1)
    (fun w => a.length + 1 - w.length) ul [1010416, 1009616] ⟨hulim, hun, hulen⟩ ⟨rfl, rfl, rfl⟩ ?_
  rintro w ⟨hw, hwn, hwl⟩
  refine nx ?_
  refine BrG.split (fun h => ?_) (fun h => ?_)
  · have hlt : w.length ≤ a.length := by have := h; simp only [wz] at this; omega
    refine nx ?_
    refine ⟨cells_one _ _, (by simp only [wz]; omega), w ++ [0], [1602, 1051], ⟨lim_append.2 ⟨hw, by simp [lim_cons, lim_nil]⟩, by rw [nv_snoc]; omega, by simp; omega⟩, by simp; omega, rfl, rfl, ?_⟩
    refine Eq.trans (b := [.row true T.uint32 1 _, .row true T.uint32 1 (Ψ .lims vl)]) rfl ?_
    rw [← scat_snoc]; rfl
  · have hlt : w.length = a.length + 1 := by have := h; simp only [wz] at this; omega
    obtain ⟨K0, hK0⟩ : ∃ K0, K0 = w.length - vl.length := ⟨_, rfl⟩
    have hw1 : Ω .wrap .i64 (Ω .ci w.length - Ω .ci vl.length) = Ω .ci K0 := by rw [wrap_sub (by omega) (by omega), hK0]
    refine nx ?_
    rw [hw1]
    refine ⟨ci_nonneg _, Int.le_refl _, by simp only [wz]; omega, by simp only [wz]; omega, ?_⟩
    refine LoopG.intro (σ := Nat × List Nat × List Nat) [6, 7, 9, 11, 12, 13] [1050, 1051, 1052]
      (fun x => [.d (.i .i64 (Ω .ci s)), .own 1051 1, .own 1050 1, .d (.i .i64 (Ω .ci vl.length)), .own 1052 1, .d (.i .i64 (Ω .wrap .i64 (Ω .ci x.1 - 1)))])
      (fun x => [.row true T.uint32 1 (Ψ .lims x.2.1), .row true T.uint32 1 (Ψ .lims vl), .row true T.uint32 1 (Ψ .lims x.2.2)])
      (fun x => x.1 ≤ K0 ∧ lim x.2.1 ∧ x.2.1.length = a.length + 1 ∧ lim x.2.2 ∧ x.2.2.length = K0 ∧ nv x.2.1 + nv vl * (4294967296 ^ x.1 * nv (x.2.2.drop x.1)) = nv a * 2 ^ s ∧ nv (x.2.1.drop x.1) < nv vl)
      (fun x => x.1) (K0, w, List.replicate K0 0) [1050, 1051, 1704] ⟨Nat.le_refl _, hw, hlt, lim_rep _, by simp, by simp [hwn], ?_⟩ ⟨rfl, ?_, ?_⟩ ?_
    · simp only
      have h1 := nv_split w K0 (by omega)
      rw [hwn] at h1
      have h2 := Nat.mul_lt_mul_of_pos_right (nv_lt ha.lim) (Nat.pow_pos (n := s) (show 0 < 2 by omega))
      rw [show a.length = K0 + (n + 1) by omega, Nat.pow_add, Nat.mul_assoc] at h2
      have h3 : 2 ^ s ≤ 2147483648 := Nat.pow_le_pow_right (n := 2) (by omega) (show s ≤ 31 by omega)
      have h4 := Nat.mul_le_mul_left (4294967296 ^ (n + 1)) h3
      have h5 := hst.1
      rw [hvn]
      rcases Nat.lt_or_ge (nv (w.drop K0)) (nv b * 2 ^ s) with c | c
      · exact c
      · have h6 := Nat.mul_le_mul_left (4294967296 ^ K0) (show 4294967296 ^ (n + 1) * 2 ^ s ≤ nv (w.drop K0) by omega)
        omega
    · refine Eq.trans (b := [.d (.i .i64 (Ω .ci s)), .own 1051 1, .own 1050 1, .d (.i .i64 (Ω .ci vl.length)), .own 1052 1, .d (.i .i64 _)]) rfl ?_
      rfl
    · refine Eq.trans (b := [.row true T.uint32 1 (Ψ .lims w), .row true T.uint32 1 (Ψ .lims vl), .row true T.uint32 1 _]) rfl ?_
      rw [← srep_lims]; rfl
    rintro ⟨k, w, q⟩ ⟨hk, hwlim, hwlen, hqlim, hqlen, hinv, hrem⟩
    simp only at hk hwlim hwlen hqlim hqlen hinv hrem
    refine nx ?_
    refine BrG.split (fun h => ?_) (fun h => ?_)
    · rw [wrap64 (by simp only [wz]; omega) (by simp only [wz]; omega)] at h
      have hk0 : 0 < k := by have := h; simp only [wz] at this; omega
      obtain ⟨j, rfl⟩ : ∃ j, k = j + 1 := ⟨k - 1, by omega⟩
      have e1 : Ω .wrap .i64 (Ω .ci (j + 1) - 1) = Ω .ci j := wrap_pred (by omega) (by omega)
      rw [e1]
      -- the window
      have hWl : ((w.drop j).take (n + 3)).length = n + 3 := by simp; omega
      obtain ⟨x2, hx2⟩ : ∃ x, w[j + (n + 2)]? = some x := ⟨_, List.getElem?_eq_getElem (by omega)⟩
      obtain ⟨x1, hx1⟩ : ∃ x, w[j + (n + 1)]? = some x := ⟨_, List.getElem?_eq_getElem (by omega)⟩
      obtain ⟨x0, hx0⟩ : ∃ x, w[j + n]? = some x := ⟨_, List.getElem?_eq_getElem (by omega)⟩
      obtain ⟨v1, hv1⟩ : ∃ x, vl[n + 1]? = some x := ⟨_, List.getElem?_eq_getElem (by omega)⟩
      obtain ⟨v0, hv0⟩ : ∃ x, vl[n]? = some x := ⟨_, List.getElem?_eq_getElem (by omega)⟩
      have l2 := lim_get hwlim hx2
      have l1 := lim_get hwlim hx1
      have l0 := lim_get hwlim hx0
      have lv1 := lim_get hvlim hv1
      have lv0 := lim_get hvlim hv0
      have i1 : Ω .wrap .i64 (Ω .ci j + Ω .ci vl.length) = Ω .ci (j + (n + 2)) := by rw [wrap_add (by omega), hvlen]
      have i2 : Ω .wrap .i64 (Ω .ci (j + (n + 2)) - 1) = Ω .ci (j + (n + 1)) := wrap_pred (by omega) (by omega)
      have i3 : Ω .wrap .i64 (Ω .ci vl.length - 1) = Ω .ci (n + 1) := by rw [wrap_pred (by omega) (by omega), hvlen]; rfl
      have i4 : Ω .wrap .i64 (Ω .ci vl.length - 2) = Ω .ci n := by
        rw [wrap64 (by simp only [wz]; omega) (by simp only [wz]; omega)]; simp only [wz]; omega
      have i5 : Ω .wrap .i64 (Ω .ci (j + (n + 2)) - 2) = Ω .ci (j + n) := by
        rw [wrap64 (by simp only [wz]; omega) (by simp only [wz]; omega)]; simp only [wz]; omega
      refine nx ?_
      refine own_lims (j + (n + 2)) x2 i1 hx2 ?_ ?_ ?_
      · exact Nat.le_refl _
      · exact rfl
      refine nx ?_
      refine own_lims (j + (n + 1)) x1 (by rw [i1]; exact i2) hx1 ?_ ?_ ?_
      · exact Nat.le_refl _
      · exact rfl
      refine nx ?_
      have hT : Ω .ior .u64 (Ω .ishl .u64 (Ω .wrap .u64 (Ω .ci x2)) 32) (Ω .wrap .u64 (Ω .ci x1)) = Ω .ci (x2 * 4294967296 + x1) := by
        rw [wrapu64_ci, wrapu64_ci, Nat.mod_eq_of_lt (by omega), Nat.mod_eq_of_lt (by omega), ishl32, wrapu64_ci, Nat.mod_eq_of_lt (by omega), ior64_ci (by omega) (by omega), or_shl _ l1]
      have hv1w : Ω .wrap .u64 (Ω .ci v1) = Ω .ci v1 := by rw [wrapu64_ci, Nat.mod_eq_of_lt (by omega)]
      rw [hT]
      obtain ⟨T', hT'⟩ : ∃ t, t = x2 * 4294967296 + x1 := ⟨_, rfl⟩
      have hTl : T' < 18446744073709551616 := by omega
      rw [← hT']
      refine own_lims (n + 1) v1 i3 hv1 ?_ ?_ ?_
      · exact Nat.le_refl _
      · exact rfl
      refine nx ?_
      have hv1b : 2147483648 ≤ v1 := by
        have h1 := nv_take_succ hv1
        rw [show n + 1 + 1 = vl.length by omega, List.take_length, hvn] at h1
        have h2 := nv_lt (lim_take hvlim (n + 1))
        rw [List.length_take, Nat.min_eq_left (by omega)] at h2
        have h3 := hst.1
        rcases Nat.lt_or_ge v1 2147483648 with c | c
        · have h4 := Nat.mul_le_mul_left (4294967296 ^ (n + 1)) (show v1 + 1 ≤ 2147483648 by omega)
          rw [Nat.mul_add] at h4
          omega
        · exact c
      rw [hv1w]
      refine ⟨by simp only [wz]; omega, ?_⟩
      refine own_lims (n + 1) v1 i3 hv1 ?_ ?_ ?_
      · exact Nat.le_refl _
      · exact rfl
      refine nx ?_
      rw [hv1w]
      refine ⟨by simp only [wz]; omega, ?_⟩
      -- the window's value
      obtain ⟨R, hR⟩ : ∃ R, R = nv (w.drop j) := ⟨_, rfl⟩
      have hRs : R < 4294967296 * nv vl := by
        obtain ⟨y, hy⟩ : ∃ y, w[j]? = some y := ⟨_, List.getElem?_eq_getElem (by omega)⟩
        have hyl := lim_get hwlim hy
        rw [hR, nv_drop hy]
        omega
      have hVlt : nv vl < 4294967296 ^ (n + 2) := by have := nv_lt hvlim; rwa [hvlen] at this
      have hsplit := nv_split (w.drop j) (n + 3) (by simp; omega)
      have hZ0 : nv ((w.drop j).drop (n + 3)) = 0 := by
        rcases Nat.eq_zero_or_pos (nv ((w.drop j).drop (n + 3))) with c | c
        · exact c
        · exfalso
          have h1 := Nat.mul_le_mul_left (4294967296 ^ (n + 3)) c
          have h2 : 4294967296 ^ (n + 3) = 4294967296 ^ (n + 2) * 4294967296 := Nat.pow_succ _ _
          omega
      rw [hZ0, Nat.mul_zero, Nat.add_zero] at hsplit
      have hRW : R = nv ((w.drop j).take n) + 4294967296 ^ n * x0 + 4294967296 ^ n * 4294967296 * x1 + 4294967296 ^ n * 4294967296 * 4294967296 * x2 := by
        have g0 : (w.drop j)[n]? = some x0 := by rw [List.getElem?_drop]; exact hx0
        have g1 : (w.drop j)[n + 1]? = some x1 := by rw [List.getElem?_drop]; exact hx1
        have g2 : (w.drop j)[n + 2]? = some x2 := by rw [List.getElem?_drop]; exact hx2
        rw [hR, hsplit, nv_take_succ g2, nv_take_succ g1, nv_take_succ g0]
        simp only [Nat.pow_succ]
      have hVW : nv vl = nv (vl.take n) + 4294967296 ^ n * v0 + 4294967296 ^ n * 4294967296 * v1 := by
        have := nv_take_succ hv1
        rw [show n + 1 + 1 = vl.length by omega, List.take_length, nv_take_succ hv0, Nat.pow_succ] at this
        exact this
      have hlo : nv ((w.drop j).take n) < 4294967296 ^ n := by
        have := nv_lt (lim_take (lim_drop hwlim j) n)
        rwa [List.length_take, Nat.min_eq_left (by simp; omega)] at this
      have hlo' : nv (vl.take n) < 4294967296 ^ n := by
        have := nv_lt (lim_take hvlim n)
        rwa [List.length_take, Nat.min_eq_left (by omega)] at this
      have kn : Kn R T' x0 (nv ((w.drop j).take n)) (nv vl) v1 v0 (nv (vl.take n)) (4294967296 ^ n) := by
        refine ⟨?_, hlo, ?_, hlo', l0, lv0, hv1b, lv1, hRs⟩
        · rw [hRW, hT']
          generalize 4294967296 ^ n = M
          rw [Nat.add_mul, Nat.add_mul, Nat.add_mul]
          have q1 : x2 * 4294967296 * 4294967296 * M = M * 4294967296 * 4294967296 * x2 := by
            rw [Nat.mul_comm _ M, ← Nat.mul_assoc, ← Nat.mul_assoc, Nat.mul_right_comm M x2, Nat.mul_right_comm _ x2]
          have q2 : x1 * 4294967296 * M = M * 4294967296 * x1 := by rw [Nat.mul_comm _ M, ← Nat.mul_assoc, Nat.mul_right_comm]
          rw [q1, q2, Nat.mul_comm x0]
          omega
        · rw [hVW]
          generalize 4294967296 ^ n = M
          rw [Nat.add_mul]
          have q2 : v1 * 4294967296 * M = M * 4294967296 * v1 := by rw [Nat.mul_comm _ M, ← Nat.mul_assoc, Nat.mul_right_comm]
          rw [q2, Nat.mul_comm v0]
          omega
      have hq : R / nv vl ≤ T' / v1 := kn.first
      rw [tdiv_ci, tmod_ci, wrapu64_ci]
      refine LoopG.intro (σ := Nat × Nat) [6, 7, 9, 11, 12, 13, 15, 16] [1050, 1051, 1052]
        (fun x => [.d (.i .i64 (Ω .ci s)), .own 1051 1, .own 1050 1, .d (.i .i64 (Ω .ci vl.length)), .own 1052 1, .d (.i .i64 (Ω .ci j)), .d (.i .u64 (Ω .ci x.1)), .d (.i .u64 (Ω .ci x.2))])
        (fun x => [.row true T.uint32 1 (Ψ .lims w), .row true T.uint32 1 (Ψ .lims vl), .row true T.uint32 1 (Ψ .lims q)])
        (fun x => x.1 * v1 + x.2 = T' ∧ R / nv vl ≤ x.1 ∧ x.2 < 4294967296)
        (fun x => x.1) (T' / v1, T' % v1) [1050, 1051, 1052] ⟨by have := Nat.div_add_mod T' v1; rw [Nat.mul_comm] at this; exact this, hq, Nat.lt_trans (Nat.mod_lt _ (by omega)) lv1⟩ ⟨rfl, ?_, rfl⟩ ?_
      · refine Eq.trans (b := [.d (.i .i64 (Ω .ci s)), .own 1051 1, .own 1050 1, .d (.i .i64 (Ω .ci vl.length)), .own 1052 1, .d (.i .i64 (Ω .ci j)), .d (.i .u64 _), .d (.i .u64 _)]) rfl ?_
        rw [wrapu64_ci, Nat.mod_eq_of_lt (Nat.lt_of_le_of_lt (Nat.div_le_self _ _) hTl)]
      rintro ⟨g, r⟩ ⟨hg, hge, hr⟩
      simp only at hg hge hr
      have hg64 : g < 18446744073709551616 := by
        have := Nat.le_mul_of_pos_right g (show 0 < v1 by omega)
        omega
      refine nx ?_
      refine BrG.split (fun h => ?_) (fun h => ?_)
      · have hbig : 4294967296 ≤ g := by have := h; simp only [wz] at this; omega
        refine nx ?_
        refine own_lims (n + 1) v1 i3 hv1 ?_ ?_ ?_
        · exact Nat.le_refl _
        · exact rfl
        have hRq : R / nv vl < 4294967296 := (Nat.div_lt_iff_lt_mul (by omega)).2 hRs
        have hgq : R / nv vl ≤ g - 1 := by omega
        refine nx ?_
        have hgm : Ω .wrap .u64 (Ω .ci g - 1) = Ω .ci (g - 1) := by
          rw [show (1 : Int) = Ω .ci 1 from rfl, ci_sub (by omega), wrapu64_ci, Nat.mod_eq_of_lt (by omega)]
        have hgs : (g - 1) * v1 + (r + v1) = T' := by
          obtain ⟨g', rfl⟩ : ∃ g', g = g' + 1 := ⟨g - 1, by omega⟩
          rw [Nat.add_mul] at hg
          simp only [Nat.add_sub_cancel]
          omega
        rw [hgm, hv1w, ci_add, wrapu64_ci, Nat.mod_eq_of_lt (by omega)]
        refine BrG.split (fun h => ?_) (fun h => ?_)
        · have hr2 : 4294967296 ≤ r + v1 := by have := h; simp only [wz] at this; omega
          obtain ⟨hGl, hGV⟩ := kn.broke hgs hr2
          obtain ⟨G, hG⟩ : ∃ G, G = g - 1 := ⟨_, rfl⟩
          rw [← hG] at hGl hGV hgq ⊢
          refine nx ?_
          rw [i1, wrap_succ (by omega)]
          have hwsp : w = w.take j ++ (w.drop j).take (n + 3) ++ w.drop (j + (n + 3)) := by
            rw [List.append_assoc, ← List.drop_drop, List.take_append_drop, List.take_append_drop]
          have hless := less_own (w.take j) ((w.drop j).take (n + 3)) (w.drop (j + (n + 3))) vl G (lim_take (lim_drop hwlim _) _) hvlim (by rw [← hwsp]; omega) (by omega) hGl
          rw [← hwsp, hWl, show (w.take j).length = j by simp; omega, ← hsplit, ← hR] at hless
          have hV0 : 0 < nv vl := by omega
          have hVm : nv vl < 4294967296 ^ (n + 3) := Nat.lt_of_lt_of_le hVlt (B_mono (by omega))
          refine ⟨ci_nonneg _, by simp only [wz]; omega, by simp only [wz]; omega, Int.le_refl _, (by first | exact rfl | exact fun _ => rfl), ?_⟩
          have hjm : j + (n + 2) + 1 - j = n + 3 := by omega
          by_cases hover : R < G * nv vl
          · rw [decide_eq_true hover, if_pos hover] at hless
            obtain ⟨hG0, o1, o2, o3⟩ := guess_over hGV hover hVm
            obtain ⟨w2, hw2⟩ : ∃ l, l = w.take j ++ ln (n + 3) (R + 4294967296 ^ (n + 3) - G * nv vl) ++ w.drop (j + (n + 3)) := ⟨_, rfl⟩
            obtain ⟨w3, hw3⟩ : ∃ l, l = w.take j ++ ln (n + 3) (R + nv vl - G * nv vl) ++ w.drop (j + (n + 3)) := ⟨_, rfl⟩
            rw [← hw2] at hless
            have hw2l : w2.length = w.length := by rw [hw2]; simp [len_ln]; omega
            have hback := back_own (w.take j) (ln (n + 3) (R + 4294967296 ^ (n + 3) - G * nv vl)) (w.drop (j + (n + 3))) vl (lim_ln _ _) hvlim (by rw [← hw2]; omega) (by rw [len_ln]; omega)
            rw [← hw2, len_ln, nv_ln (by omega), o1, show (w.take j).length = j by simp; omega, ← hw3] at hback
            have hround := long_round hwlim (j := j) (m := n + 3) (by omega) (by omega) hqlim hZ0 (by omega) (show G - 1 < 4294967296 by omega) (by rw [← hsplit, ← hR]; exact o2) hinv o3
            rw [← hw3] at hround
            refine ⟨_, _, hC2 _ _ _ _ _ (show Good P F.nat_less [.ref 0 1 j (j + (n + 2) + 1 - j), .own 1 1, .d (.i .u64 (Ω .ci G))] [.row true T.uint32 1 (Ψ .lims w), .row true T.uint32 1 (Ψ .lims vl)] _ _ from by rw [hjm]; exact hless), ?_⟩
            refine nx ?_
            rw [i1, wrap_succ (by omega)]
            refine ⟨ci_nonneg _, by simp only [wz]; omega, by simp only [wz]; omega, Int.le_refl _, (by first | exact rfl | exact fun _ => rfl), ?_⟩
            refine ⟨_, _, hC2 _ _ _ _ _ (show Good P F.nat_back [.ref 0 1 j (j + (n + 2) + 1 - j), .own 1 1] [.row true T.uint32 1 (Ψ .lims w2), .row true T.uint32 1 (Ψ .lims vl)] _ _ from by rw [hjm]; exact hback), ?_⟩
            refine nx ?_
            refine ⟨ci_nonneg _, by simp only [wz]; omega, by show j < q.length; omega, (j, w3, q.set j (G - 1)), [1050, 1051, 1052], ⟨by simp only; omega, hround.1, by simp only; rw [hround.2.1]; exact hwlen, hround.2.2.1, by simp only; rw [hround.2.2.2.1]; exact hqlen, hround.2.2.2.2.1, hround.2.2.2.2.2⟩, by simp only; omega, rfl, ?_, ?_⟩
            · refine Eq.trans (b := [.d (.i .i64 (Ω .ci s)), .own 1051 1, .own 1050 1, .d (.i .i64 (Ω .ci vl.length)), .own 1052 1, .d (.i .i64 _)]) rfl ?_
              rw [wrap64 (by simp only [wz]; omega) (by simp only [wz]; omega)]
            · refine Eq.trans (b := [.row true T.uint32 1 (Ψ .lims w3), .row true T.uint32 1 (Ψ .lims vl), .row true T.uint32 1 _]) rfl ?_
              rw [show (1 : Int) = Ω .ci 1 from rfl, ci_sub (by omega), wrapu64_ci, wrapu32_ci, Nat.mod_eq_of_lt (show G - 1 < 18446744073709551616 by omega), Nat.mod_eq_of_lt (by omega), sset_lims]
          · simp only [decide_eq_false hover, if_neg hover, Nat.add_zero] at hless
            obtain ⟨o1, o2⟩ := guess_right hgq hover hV0
            obtain ⟨w2, hw2⟩ : ∃ l, l = w.take j ++ ln (n + 3) (R - G * nv vl) ++ w.drop (j + (n + 3)) := ⟨_, rfl⟩
            have hround := long_round hwlim (j := j) (m := n + 3) (by omega) (by omega) hqlim hZ0 (by omega) hGl (by rw [← hsplit, ← hR]; exact o1) hinv o2
            rw [← hw2] at hless hround
            refine ⟨_, _, hC2 _ _ _ _ _ (show Good P F.nat_less [.ref 0 1 j (j + (n + 2) + 1 - j), .own 1 1, .d (.i .u64 (Ω .ci G))] [.row true T.uint32 1 (Ψ .lims w), .row true T.uint32 1 (Ψ .lims vl)] _ _ from by rw [hjm]; exact hless), ?_⟩
            refine nx ?_
            refine ⟨ci_nonneg _, by simp only [wz]; omega, by show j < q.length; omega, (j, w2, q.set j G), [1050, 1051, 1052], ⟨by simp only; omega, hround.1, by simp only; rw [hround.2.1]; exact hwlen, hround.2.2.1, by simp only; rw [hround.2.2.2.1]; exact hqlen, hround.2.2.2.2.1, hround.2.2.2.2.2⟩, by simp only; omega, rfl, ?_, ?_⟩
            · refine Eq.trans (b := [.d (.i .i64 (Ω .ci s)), .own 1051 1, .own 1050 1, .d (.i .i64 (Ω .ci vl.length)), .own 1052 1, .d (.i .i64 _)]) rfl ?_
              rw [wrap64 (by simp only [wz]; omega) (by simp only [wz]; omega)]
            · refine Eq.trans (b := [.row true T.uint32 1 (Ψ .lims w2), .row true T.uint32 1 (Ψ .lims vl), .row true T.uint32 1 _]) rfl ?_
              rw [wrapu32_ci, Nat.mod_eq_of_lt hGl, sset_lims]
        · have hr2 : r + v1 < 4294967296 := by have := h; simp only [wz] at this; omega
          refine nx ?_
          refine ⟨(g - 1, r + v1), [1050, 1051, 1052], ⟨hgs, hgq, hr2⟩, by simp only; omega, rfl, rfl, rfl⟩
      · have hsm : g < 4294967296 := by have := h; simp only [wz] at this; omega
        refine nx ?_
        (generalize hq : Ω .lt (Ω .ci r) 4294967296 = q; refine BrG.split (fun h => ?_) (fun h => ?_) <;> subst hq)
        · refine nx ?_
          refine own_lims n v0 i4 hv0 ?_ ?_ ?_
          · exact Nat.le_refl _
          · exact rfl
          refine nx ?_
          refine own_lims (j + n) x0 (by rw [i1]; exact i5) hx0 ?_ ?_ ?_
          · exact Nat.le_refl _
          · exact rfl
          refine nx ?_
          have hgv : g * v0 < 18446744073709551616 := by
            have := Nat.mul_le_mul (show g ≤ 4294967295 by omega) (show v0 ≤ 4294967295 by omega)
            omega
          have hL : Ω .wrap .u64 (Ω .ci g * Ω .wrap .u64 (Ω .ci v0)) = Ω .ci (g * v0) := by
            rw [wrapu64_ci, Nat.mod_eq_of_lt (by omega), ci_mul, wrapu64_ci, Nat.mod_eq_of_lt hgv]
          have hRt : Ω .ior .u64 (Ω .ishl .u64 (Ω .ci r) 32) (Ω .wrap .u64 (Ω .ci x0)) = Ω .ci (r * 4294967296 + x0) := by
            rw [wrapu64_ci, Nat.mod_eq_of_lt (by omega), ishl32, wrapu64_ci, Nat.mod_eq_of_lt (by omega), ior64_ci (by omega) (by omega), or_shl _ l0]
          rw [hL, hRt]
          refine BrG.split (fun h => ?_) (fun h => ?_)
          · have hbig : r * 4294967296 + x0 < g * v0 := by have := h; simp only [wz] at this; omega
            have hRl : R < g * nv vl := kn.down hg hbig
            have hg0 : 0 < g := by
              rcases Nat.eq_zero_or_pos g with c | c
              · subst c; omega
              · exact c
            have hgq : R / nv vl ≤ g - 1 := by
              have := (Nat.div_lt_iff_lt_mul (by omega : 0 < nv vl)).2 hRl
              omega
            refine nx ?_
            refine own_lims (n + 1) v1 i3 hv1 ?_ ?_ ?_
            · exact Nat.le_refl _
            · exact rfl
            refine nx ?_
            have hgm : Ω .wrap .u64 (Ω .ci g - 1) = Ω .ci (g - 1) := by
              rw [show (1 : Int) = Ω .ci 1 from rfl, ci_sub (by omega), wrapu64_ci, Nat.mod_eq_of_lt (by omega)]
            have hgs : (g - 1) * v1 + (r + v1) = T' := by
              obtain ⟨g', rfl⟩ : ∃ g', g = g' + 1 := ⟨g - 1, by omega⟩
              rw [Nat.add_mul] at hg
              simp only [Nat.add_sub_cancel]
              omega
            rw [hgm, hv1w, ci_add, wrapu64_ci, Nat.mod_eq_of_lt (by omega)]
            refine BrG.split (fun h => ?_) (fun h => ?_)
            · have hr2 : 4294967296 ≤ r + v1 := by have := h; simp only [wz] at this; omega
              obtain ⟨hGl, hGV⟩ := kn.broke hgs hr2
              obtain ⟨G, hG⟩ : ∃ G, G = g - 1 := ⟨_, rfl⟩
              rw [← hG] at hGl hGV hgq ⊢
              refine nx ?_
              rw [i1, wrap_succ (by omega)]
              have hwsp : w = w.take j ++ (w.drop j).take (n + 3) ++ w.drop (j + (n + 3)) := by
                rw [List.append_assoc, ← List.drop_drop, List.take_append_drop, List.take_append_drop]
              have hless := less_own (w.take j) ((w.drop j).take (n + 3)) (w.drop (j + (n + 3))) vl G (lim_take (lim_drop hwlim _) _) hvlim (by rw [← hwsp]; omega) (by omega) hGl
              rw [← hwsp, hWl, show (w.take j).length = j by simp; omega, ← hsplit, ← hR] at hless
              have hV0 : 0 < nv vl := by omega
              have hVm : nv vl < 4294967296 ^ (n + 3) := Nat.lt_of_lt_of_le hVlt (B_mono (by omega))
              refine ⟨ci_nonneg _, by simp only [wz]; omega, by simp only [wz]; omega, Int.le_refl _, (by first | exact rfl | exact fun _ => rfl), ?_⟩
              have hjm : j + (n + 2) + 1 - j = n + 3 := by omega
              by_cases hover : R < G * nv vl
              · rw [decide_eq_true hover, if_pos hover] at hless
                obtain ⟨hG0, o1, o2, o3⟩ := guess_over hGV hover hVm
                obtain ⟨w2, hw2⟩ : ∃ l, l = w.take j ++ ln (n + 3) (R + 4294967296 ^ (n + 3) - G * nv vl) ++ w.drop (j + (n + 3)) := ⟨_, rfl⟩
                obtain ⟨w3, hw3⟩ : ∃ l, l = w.take j ++ ln (n + 3) (R + nv vl - G * nv vl) ++ w.drop (j + (n + 3)) := ⟨_, rfl⟩
                rw [← hw2] at hless
                have hw2l : w2.length = w.length := by rw [hw2]; simp [len_ln]; omega
                have hback := back_own (w.take j) (ln (n + 3) (R + 4294967296 ^ (n + 3) - G * nv vl)) (w.drop (j + (n + 3))) vl (lim_ln _ _) hvlim (by rw [← hw2]; omega) (by rw [len_ln]; omega)
                rw [← hw2, len_ln, nv_ln (by omega), o1, show (w.take j).length = j by simp; omega, ← hw3] at hback
                have hround := long_round hwlim (j := j) (m := n + 3) (by omega) (by omega) hqlim hZ0 (by omega) (show G - 1 < 4294967296 by omega) (by rw [← hsplit, ← hR]; exact o2) hinv o3
                rw [← hw3] at hround
                refine ⟨_, _, hC2 _ _ _ _ _ (show Good P F.nat_less [.ref 0 1 j (j + (n + 2) + 1 - j), .own 1 1, .d (.i .u64 (Ω .ci G))] [.row true T.uint32 1 (Ψ .lims w), .row true T.uint32 1 (Ψ .lims vl)] _ _ from by rw [hjm]; exact hless), ?_⟩
                refine nx ?_
                rw [i1, wrap_succ (by omega)]
                refine ⟨ci_nonneg _, by simp only [wz]; omega, by simp only [wz]; omega, Int.le_refl _, (by first | exact rfl | exact fun _ => rfl), ?_⟩
                refine ⟨_, _, hC2 _ _ _ _ _ (show Good P F.nat_back [.ref 0 1 j (j + (n + 2) + 1 - j), .own 1 1] [.row true T.uint32 1 (Ψ .lims w2), .row true T.uint32 1 (Ψ .lims vl)] _ _ from by rw [hjm]; exact hback), ?_⟩
                refine nx ?_
                refine ⟨ci_nonneg _, by simp only [wz]; omega, by show j < q.length; omega, (j, w3, q.set j (G - 1)), [1050, 1051, 1052], ⟨by simp only; omega, hround.1, by simp only; rw [hround.2.1]; exact hwlen, hround.2.2.1, by simp only; rw [hround.2.2.2.1]; exact hqlen, hround.2.2.2.2.1, hround.2.2.2.2.2⟩, by simp only; omega, rfl, ?_, ?_⟩
                · refine Eq.trans (b := [.d (.i .i64 (Ω .ci s)), .own 1051 1, .own 1050 1, .d (.i .i64 (Ω .ci vl.length)), .own 1052 1, .d (.i .i64 _)]) rfl ?_
                  rw [wrap64 (by simp only [wz]; omega) (by simp only [wz]; omega)]
                · refine Eq.trans (b := [.row true T.uint32 1 (Ψ .lims w3), .row true T.uint32 1 (Ψ .lims vl), .row true T.uint32 1 _]) rfl ?_
                  rw [show (1 : Int) = Ω .ci 1 from rfl, ci_sub (by omega), wrapu64_ci, wrapu32_ci, Nat.mod_eq_of_lt (show G - 1 < 18446744073709551616 by omega), Nat.mod_eq_of_lt (by omega), sset_lims]
              · simp only [decide_eq_false hover, if_neg hover, Nat.add_zero] at hless
                obtain ⟨o1, o2⟩ := guess_right hgq hover hV0
                obtain ⟨w2, hw2⟩ : ∃ l, l = w.take j ++ ln (n + 3) (R - G * nv vl) ++ w.drop (j + (n + 3)) := ⟨_, rfl⟩
                have hround := long_round hwlim (j := j) (m := n + 3) (by omega) (by omega) hqlim hZ0 (by omega) hGl (by rw [← hsplit, ← hR]; exact o1) hinv o2
                rw [← hw2] at hless hround
                refine ⟨_, _, hC2 _ _ _ _ _ (show Good P F.nat_less [.ref 0 1 j (j + (n + 2) + 1 - j), .own 1 1, .d (.i .u64 (Ω .ci G))] [.row true T.uint32 1 (Ψ .lims w), .row true T.uint32 1 (Ψ .lims vl)] _ _ from by rw [hjm]; exact hless), ?_⟩
                refine nx ?_
                refine ⟨ci_nonneg _, by simp only [wz]; omega, by show j < q.length; omega, (j, w2, q.set j G), [1050, 1051, 1052], ⟨by simp only; omega, hround.1, by simp only; rw [hround.2.1]; exact hwlen, hround.2.2.1, by simp only; rw [hround.2.2.2.1]; exact hqlen, hround.2.2.2.2.1, hround.2.2.2.2.2⟩, by simp only; omega, rfl, ?_, ?_⟩
                · refine Eq.trans (b := [.d (.i .i64 (Ω .ci s)), .own 1051 1, .own 1050 1, .d (.i .i64 (Ω .ci vl.length)), .own 1052 1, .d (.i .i64 _)]) rfl ?_
                  rw [wrap64 (by simp only [wz]; omega) (by simp only [wz]; omega)]
                · refine Eq.trans (b := [.row true T.uint32 1 (Ψ .lims w2), .row true T.uint32 1 (Ψ .lims vl), .row true T.uint32 1 _]) rfl ?_
                  rw [wrapu32_ci, Nat.mod_eq_of_lt hGl, sset_lims]
            · have hr2 : r + v1 < 4294967296 := by have := h; simp only [wz] at this; omega
              refine nx ?_
              refine ⟨(g - 1, r + v1), [1050, 1051, 1052], ⟨hgs, hgq, hr2⟩, by simp only; omega, rfl, rfl, rfl⟩
          · have hno : g * v0 ≤ r * 4294967296 + x0 := by have := h; simp only [wz] at this; omega
            have hGV := kn.last hg hsm hno
            obtain ⟨G, hG⟩ : ∃ G, G = g := ⟨_, rfl⟩
            have hgq := hge
            have hGl := hsm
            rw [← hG] at hGl hGV hgq ⊢
            refine nx ?_
            rw [i1, wrap_succ (by omega)]
            have hwsp : w = w.take j ++ (w.drop j).take (n + 3) ++ w.drop (j + (n + 3)) := by
              rw [List.append_assoc, ← List.drop_drop, List.take_append_drop, List.take_append_drop]
            have hless := less_own (w.take j) ((w.drop j).take (n + 3)) (w.drop (j + (n + 3))) vl G (lim_take (lim_drop hwlim _) _) hvlim (by rw [← hwsp]; omega) (by omega) hGl
            rw [← hwsp, hWl, show (w.take j).length = j by simp; omega, ← hsplit, ← hR] at hless
            have hV0 : 0 < nv vl := by omega
            have hVm : nv vl < 4294967296 ^ (n + 3) := Nat.lt_of_lt_of_le hVlt (B_mono (by omega))
            refine ⟨ci_nonneg _, by simp only [wz]; omega, by simp only [wz]; omega, Int.le_refl _, (by first | exact rfl | exact fun _ => rfl), ?_⟩
            have hjm : j + (n + 2) + 1 - j = n + 3 := by omega
            by_cases hover : R < G * nv vl
            · rw [decide_eq_true hover, if_pos hover] at hless
              obtain ⟨hG0, o1, o2, o3⟩ := guess_over hGV hover hVm
              obtain ⟨w2, hw2⟩ : ∃ l, l = w.take j ++ ln (n + 3) (R + 4294967296 ^ (n + 3) - G * nv vl) ++ w.drop (j + (n + 3)) := ⟨_, rfl⟩
              obtain ⟨w3, hw3⟩ : ∃ l, l = w.take j ++ ln (n + 3) (R + nv vl - G * nv vl) ++ w.drop (j + (n + 3)) := ⟨_, rfl⟩
              rw [← hw2] at hless
              have hw2l : w2.length = w.length := by rw [hw2]; simp [len_ln]; omega
              have hback := back_own (w.take j) (ln (n + 3) (R + 4294967296 ^ (n + 3) - G * nv vl)) (w.drop (j + (n + 3))) vl (lim_ln _ _) hvlim (by rw [← hw2]; omega) (by rw [len_ln]; omega)
              rw [← hw2, len_ln, nv_ln (by omega), o1, show (w.take j).length = j by simp; omega, ← hw3] at hback
              have hround := long_round hwlim (j := j) (m := n + 3) (by omega) (by omega) hqlim hZ0 (by omega) (show G - 1 < 4294967296 by omega) (by rw [← hsplit, ← hR]; exact o2) hinv o3
              rw [← hw3] at hround
              refine ⟨_, _, hC2 _ _ _ _ _ (show Good P F.nat_less [.ref 0 1 j (j + (n + 2) + 1 - j), .own 1 1, .d (.i .u64 (Ω .ci G))] [.row true T.uint32 1 (Ψ .lims w), .row true T.uint32 1 (Ψ .lims vl)] _ _ from by rw [hjm]; exact hless), ?_⟩
              refine nx ?_
              rw [i1, wrap_succ (by omega)]
              refine ⟨ci_nonneg _, by simp only [wz]; omega, by simp only [wz]; omega, Int.le_refl _, (by first | exact rfl | exact fun _ => rfl), ?_⟩
              refine ⟨_, _, hC2 _ _ _ _ _ (show Good P F.nat_back [.ref 0 1 j (j + (n + 2) + 1 - j), .own 1 1] [.row true T.uint32 1 (Ψ .lims w2), .row true T.uint32 1 (Ψ .lims vl)] _ _ from by rw [hjm]; exact hback), ?_⟩
              refine nx ?_
              refine ⟨ci_nonneg _, by simp only [wz]; omega, by show j < q.length; omega, (j, w3, q.set j (G - 1)), [1050, 1051, 1052], ⟨by simp only; omega, hround.1, by simp only; rw [hround.2.1]; exact hwlen, hround.2.2.1, by simp only; rw [hround.2.2.2.1]; exact hqlen, hround.2.2.2.2.1, hround.2.2.2.2.2⟩, by simp only; omega, rfl, ?_, ?_⟩
              · refine Eq.trans (b := [.d (.i .i64 (Ω .ci s)), .own 1051 1, .own 1050 1, .d (.i .i64 (Ω .ci vl.length)), .own 1052 1, .d (.i .i64 _)]) rfl ?_
                rw [wrap64 (by simp only [wz]; omega) (by simp only [wz]; omega)]
              · refine Eq.trans (b := [.row true T.uint32 1 (Ψ .lims w3), .row true T.uint32 1 (Ψ .lims vl), .row true T.uint32 1 _]) rfl ?_
                rw [show (1 : Int) = Ω .ci 1 from rfl, ci_sub (by omega), wrapu64_ci, wrapu32_ci, Nat.mod_eq_of_lt (show G - 1 < 18446744073709551616 by omega), Nat.mod_eq_of_lt (by omega), sset_lims]
            · simp only [decide_eq_false hover, if_neg hover, Nat.add_zero] at hless
              obtain ⟨o1, o2⟩ := guess_right hgq hover hV0
              obtain ⟨w2, hw2⟩ : ∃ l, l = w.take j ++ ln (n + 3) (R - G * nv vl) ++ w.drop (j + (n + 3)) := ⟨_, rfl⟩
              have hround := long_round hwlim (j := j) (m := n + 3) (by omega) (by omega) hqlim hZ0 (by omega) hGl (by rw [← hsplit, ← hR]; exact o1) hinv o2
              rw [← hw2] at hless hround
              refine ⟨_, _, hC2 _ _ _ _ _ (show Good P F.nat_less [.ref 0 1 j (j + (n + 2) + 1 - j), .own 1 1, .d (.i .u64 (Ω .ci G))] [.row true T.uint32 1 (Ψ .lims w), .row true T.uint32 1 (Ψ .lims vl)] _ _ from by rw [hjm]; exact hless), ?_⟩
              refine nx ?_
              refine ⟨ci_nonneg _, by simp only [wz]; omega, by show j < q.length; omega, (j, w2, q.set j G), [1050, 1051, 1052], ⟨by simp only; omega, hround.1, by simp only; rw [hround.2.1]; exact hwlen, hround.2.2.1, by simp only; rw [hround.2.2.2.1]; exact hqlen, hround.2.2.2.2.1, hround.2.2.2.2.2⟩, by simp only; omega, rfl, ?_, ?_⟩
              · refine Eq.trans (b := [.d (.i .i64 (Ω .ci s)), .own 1051 1, .own 1050 1, .d (.i .i64 (Ω .ci vl.length)), .own 1052 1, .d (.i .i64 _)]) rfl ?_
                rw [wrap64 (by simp only [wz]; omega) (by simp only [wz]; omega)]
              · refine Eq.trans (b := [.row true T.uint32 1 (Ψ .lims w2), .row true T.uint32 1 (Ψ .lims vl), .row true T.uint32 1 _]) rfl ?_
                rw [wrapu32_ci, Nat.mod_eq_of_lt hGl, sset_lims]
        · exfalso
          have := h; simp only [wz] at this; omega
    · rw [wrap64 (by simp only [wz]; omega) (by simp only [wz]; omega)] at h
      have hk0 : k = 0 := by have := h; simp only [wz] at this; omega
      subst hk0
      simp only [Nat.pow_zero, Nat.one_mul, List.drop_zero] at hinv hrem
      have hVlt : nv vl < 4294967296 ^ (n + 2) := by have := nv_lt hvlim; rwa [hvlen] at this
      have hp2 : 0 < 2 ^ s := Nat.pow_pos (by omega)
      obtain ⟨f1, f2⟩ := divmod_unique (Q := nv q) (b := nv vl) (r := nv w) (X := nv a * 2 ^ s) (by rw [Nat.mul_comm]; omega) hrem
      rw [hvn, Nat.mul_div_mul_right _ _ hp2] at f1
      rw [hvn, Nat.mul_mod_mul_right] at f2
      have hwt : nv (w.take (n + 2)) = nv w := by
        have h1 := nv_split w (n + 2) (by omega)
        rcases Nat.eq_zero_or_pos (nv (w.drop (n + 2))) with c | c
        · rw [c] at h1; omega
        · have := Nat.mul_le_mul_left (4294967296 ^ (n + 2)) c
          omega
      have hg1 := trim_good q hqlim (by omega)
      have hg2 := shr_good (w.take (n + 2)) s ⟨lim_take hwlim _, by simp; omega⟩ hs32
      rw [← f1] at hg1
      rw [hwt, ← f2, Nat.mul_div_cancel _ hp2] at hg2
      refine nx ?_
      refine ⟨_, hC _ _ _ hg1, ?_⟩
      refine nx ?_
      refine ⟨ci_nonneg _, by simp only [wz]; omega, Int.le_refl _, (by first | exact rfl | exact fun _ => rfl), ?_⟩
      rw [ssub_lims, List.drop_zero, Nat.sub_zero, show Ω .leb (Ω .nadd 0 (Ω .nsub vl.length 0)) w.length = true from decide_eq_true (by show 0 + (vl.length - 0) ≤ w.length; omega), hvlen]
      obtain ⟨w5, hw5⟩ : ∃ l, l = w.take (n + 2) := ⟨_, rfl⟩
      rw [← hw5] at hg2 ⊢
      refine nx ?_
      refine ⟨_, hC _ _ _ hg2, ?_⟩
      exact nx trivial
end Go.K.S
end
section
/-
  Contract of nat.Cmp.
-/
namespace Go.K.S
open Go Go.K
set_option maxHeartbeats 1000000
set_option linter.unusedVariables false
set_option linter.unusedSimpArgs false

theorem cmp_good (a b : List Nat) (ha : N a) (hb : N b) : Good P F.nat_Cmp [.d (dN Ψ a), .d (dN Ψ b)] [] (.d (.i .i64 (Ψ .cmpI (nv a) (nv b)))) [] := by
  refine G.nat_Cmp fun C C2 hC hC2 => ?_
  refine nx ?_
  refine ⟨_, hC _ _ _ (trim_good a ha.lim ha.len), ?_⟩
  refine nx ?_
  refine ⟨_, hC _ _ _ (trim_good b hb.lim hb.len), ?_⟩
  have hna := ha.cn
  have hnb := hb.cn
  have hlt1 : (Ψ .cn (nv a)).length < (Ψ .cn (nv b)).length → nv a < nv b := cn_len_lt
  have hlt2 : (Ψ .cn (nv b)).length < (Ψ .cn (nv a)).length → nv b < nv a := cn_len_lt
  have hva := nv_cn (nv a)
  have hvb := nv_cn (nv b)
  generalize Ψ .cn (nv a) = x at *
  generalize Ψ .cn (nv b) = y at *
  have hxl := hna.len
  have hyl := hnb.len
  refine nx ?_
  refine BrG.split (fun h => ?_) (fun h => ?_)
  · have hne : x.length ≠ y.length := by have := h; simp only [wz] at this; omega
    refine nx ?_
    refine BrG.split (fun h => ?_) (fun h => ?_)
    · have := h
      have hl : x.length < y.length := by simp only [wz] at this; omega
      refine nx ?_
      have := hlt1 hl
      simp only [p_cmpI, this, if_true]
    · have := h
      have hl : y.length < x.length := by simp only [wz] at this; omega
      refine nx ?_
      have := hlt2 hl
      simp only [p_cmpI, this, if_true, if_neg (show ¬ nv a < nv b by omega)]
  · have he : x.length = y.length := by have := h; simp only [wz] at this; omega
    refine nx ?_
    refine LoopG.intro (σ := Nat) [0, 1, 5] [] (fun k => [.d (dN Ψ x), .d (dN Ψ y), .d (.i .i64 (Ω .wrap .i64 (Ω .ci k - 1)))]) (fun _ => []) (fun k => k ≤ x.length ∧ x.drop k = y.drop k) (fun k => k) x.length []
      ⟨Nat.le_refl _, by rw [List.drop_length, he, List.drop_length]⟩ ⟨rfl, ?_, rfl⟩ ?_
    · rfl
    rintro k ⟨hk, hd⟩
    refine nx ?_
    refine BrG.split (fun h => ?_) (fun h => ?_)
    · rw [wrap64 (by simp only [wz]; omega) (by simp only [wz]; omega)] at h
      have hk0 : 0 < k := by simp only [wz] at h; omega
      have hk1 : Ω .wrap .i64 (Ω .ci k - 1) = Ω .ci (k - 1) := wrap_pred hk0 (by omega)
      obtain ⟨u, hu⟩ : ∃ u, x[k - 1]? = some u := ⟨_, List.getElem?_eq_getElem (by omega)⟩
      obtain ⟨v, hv⟩ : ∃ v, y[k - 1]? = some v := ⟨_, List.getElem?_eq_getElem (by omega)⟩
      have hkk : k - 1 + 1 = k := by omega
      refine nx ?_
      refine idx_lims (k - 1) u hk1 hu rfl ?_
      refine nx ?_
      refine idx_lims (k - 1) v hk1 hv rfl ?_
      refine nx ?_
      refine BrG.split (fun h => ?_) (fun h => ?_)
      · have := h
        have huv : u < v := by simp only [wz] at this; omega
        have := nv_lt_of hna.lim hu hv (by rw [hkk]; exact hd) huv
        rw [hva, hvb] at this
        refine nx ?_
        simp only [p_cmpI, this, if_true]
      · have h1 := h
        refine nx ?_
        refine idx_lims (k - 1) u hk1 hu rfl ?_
        refine nx ?_
        refine idx_lims (k - 1) v hk1 hv rfl ?_
        refine nx ?_
        refine BrG.split (fun h => ?_) (fun h => ?_)
        · have := h
          have huv : v < u := by simp only [wz] at this; omega
          have := nv_lt_of hnb.lim hv hu (by rw [hkk]; exact hd.symm) huv
          rw [hva, hvb] at this
          refine nx ?_
          simp only [p_cmpI, this, if_true, if_neg (show ¬ nv a < nv b by omega)]
        · have h2 := h
          have huv : u = v := by simp only [wz] at h1 h2; omega
          refine nx ?_
          refine ⟨k - 1, [], ⟨by omega, ?_⟩, by omega, rfl, ?_, rfl⟩
          · obtain ⟨q1, rfl⟩ := List.getElem?_eq_some_iff.1 hu
            obtain ⟨q2, e⟩ := List.getElem?_eq_some_iff.1 hv
            rw [List.drop_eq_getElem_cons q1, List.drop_eq_getElem_cons q2, e, hkk, huv, hd]
          · refine Eq.trans (b := [V.d (dN Ψ x), V.d (dN Ψ y), V.d (.i .i64 _)]) rfl ?_
            rw [hk1]
    · rw [wrap64 (by simp only [wz]; omega) (by simp only [wz]; omega)] at h
      have hk0 : k = 0 := by simp only [wz] at h; omega
      subst hk0
      have : x = y := by simpa using hd
      subst this
      have hab : nv a = nv b := by omega
      refine nx ?_
      rw [hab]
      simp only [p_cmpI, if_neg (Nat.lt_irrefl _)]
end Go.K.S
end
section
/-
  Contract: nat.DivMod.
-/
namespace Go.K.S
open Go Go.K
set_option maxHeartbeats 4000000
set_option maxRecDepth 20000
set_option linter.unusedVariables false
set_option linter.unusedSimpArgs false

theorem divmod_good (a b : List Nat) (ha : N a) (hb : N b) (hal : a.length < 549755813888) (hb0 : nv b ≠ 0) :
    Good P F.nat_DivMod [.d (dN Ψ a), .d (dN Ψ b)] [] (.tup [.d (dN Ψ (Ψ .cn (nv a / nv b))), .d (dN Ψ (Ψ .cn (nv a % nv b))), .d (.b true)]) [] := by
  refine G.nat_DivMod fun C C2 hC hC2 => ?_
  refine nx ?_
  refine ⟨_, hC _ _ _ (trim_good a ha.lim ha.len), ?_⟩
  refine nx ?_
  refine ⟨_, hC _ _ _ (trim_good b hb.lim hb.len), ?_⟩
  have hna := ha.cn
  have hnb := hb.cn
  have hva := nv_cn (nv a)
  have hvb := nv_cn (nv b)
  have hcb := cano_cn (nv b)
  have hla : (Ψ .cn (nv a)).length ≤ a.length := len_cn_nv ha.lim
  have hlb : nv b ≤ nv a → (Ψ .cn (nv b)).length ≤ (Ψ .cn (nv a)).length := fun h => by
    rcases Nat.lt_or_ge (Ψ .cn (nv a)).length (Ψ .cn (nv b)).length with c | c
    · have := cn_len_lt c; omega
    · exact c
  generalize Ψ .cn (nv a) = x at *
  generalize Ψ .cn (nv b) = y at *
  have hyl := hnb.len
  refine nx ?_
  refine BrG.split (fun h => ?_) (fun h => ?_)
  · exfalso
    have h0 : y.length = 0 := by have := h; simp only [wz] at this ⊢; omega
    have : y = [] := List.eq_nil_of_length_eq_zero h0
    subst this
    exact hb0 hvb.symm
  · have h0 : y.length ≠ 0 := by have := h; simp only [wz] at this ⊢; omega
    refine nx ?_
    refine ⟨_, hC _ _ _ (cmp_good x y hna hnb), ?_⟩
    rw [hva, hvb]
    refine nx ?_
    refine BrG.split (fun h => ?_) (fun h => ?_)
    · have hlt : nv a < nv b := cmpI_neg.1 (of_decide_eq_true h)
      refine nx ?_
      have hg := norm_good x hna
      rw [hva] at hg
      refine ⟨_, hC _ _ _ hg, ?_⟩
      rw [Nat.div_eq_of_lt hlt, Nat.mod_eq_of_lt hlt, cn_zero]
      refine nx ?_
      rfl
    · have hge : nv b ≤ nv a := by
        have := mt (cmpI_neg (m := nv a) (n := nv b)).2 (of_decide_eq_false h)
        omega
      have hlen := hlb hge
      refine nx ?_
      refine BrG.split (fun h => ?_) (fun h => ?_)
      · have h1 : y.length = 1 := by have := h; simp only [wz] at this; omega
        obtain ⟨d, rfl⟩ := List.length_eq_one_iff.1 h1
        have hd : nv b = d := by rw [← hvb]; simp
        have hdl : d < 4294967296 := (lim_cons.1 hnb.lim).1
        refine nx ?_
        refine (idx_lims (l := [d]) 0 d rfl rfl rfl ?_).2
        refine nx ?_
        have hg := small_good x d hna (by omega) hdl
        rw [hva, ← hd] at hg
        rw [← hd]
        refine nx ?_
        refine ⟨_, hC _ _ _ hg, ?_⟩
        exact nx trivial
      · have h1 : y.length ≠ 1 := by have := h; simp only [wz] at this; omega
        refine nx ?_
        have hg := long_good x y hna hnb hcb (by omega) (by omega) (by omega)
        rw [hva, hvb] at hg
        refine ⟨_, hC _ _ _ hg, ?_⟩
        exact nx trivial

end Go.K.S
end
section
/-
  Contract: root.Gcd.
-/
namespace Go.K.S
open Go Go.K
set_option maxHeartbeats 4000000
set_option maxRecDepth 20000
set_option linter.unusedVariables false
set_option linter.unusedSimpArgs false

theorem gcd_good (a b : List Nat) (ha : N a) (hb : N b) (hal : a.length < 549755813888) (hbl : b.length < 549755813888) :
    Good P F.root_Gcd [.d (dN Ψ a), .d (dN Ψ b)] [] (.d (dN Ψ (Ψ .cn ((nv a).gcd (nv b))))) [] := by
  refine G.root_Gcd fun C C2 hC hC2 => ?_
  refine nx ?_
  refine ⟨_, hC _ _ _ (norm_good a ha), ?_⟩
  refine nx ?_
  refine ⟨_, hC _ _ _ (norm_good b hb), ?_⟩
  refine nx ?_
  obtain ⟨m, hm⟩ : ∃ m, m = 549755813887 := ⟨_, rfl⟩
  have hM : nv a < 4294967296 ^ m := Nat.lt_of_lt_of_le (nv_lt ha.lim) (B_mono (by omega))
  have hM' : nv b < 4294967296 ^ m := Nat.lt_of_lt_of_le (nv_lt hb.lim) (B_mono (by omega))
  have hN : ∀ n, n < 4294967296 ^ m → N (Ψ .cn n) ∧ (Ψ .cn n).length ≤ m := fun n h => ⟨⟨lim_cn _, by have := len_cn.2 h; omega⟩, len_cn.2 h⟩
  refine LoopG.intro (σ := Nat × Nat) [0, 1] [] (fun s => [.d (dN Ψ (Ψ .cn s.1)), .d (dN Ψ (Ψ .cn s.2))]) (fun _ => [])
    (fun s => s.1 < 4294967296 ^ m ∧ s.2 < 4294967296 ^ m ∧ s.1.gcd s.2 = (nv a).gcd (nv b)) (fun s => s.2) (nv a, nv b) [] ⟨hM, hM', rfl⟩ ⟨rfl, rfl, rfl⟩ ?_
  rintro ⟨x, y⟩ ⟨hx, hy, he⟩
  simp only at hx hy he
  refine nx ?_
  refine BrG.split (fun h => ?_) (fun h => ?_)
  · have hy0 : y ≠ 0 := by
      rintro rfl
      rw [cn_zero] at h
      simp [wz] at h
    have hg := divmod_good (Ψ .cn x) (Ψ .cn y) (hN x hx).1 (hN y hy).1 (by have := (hN x hx).2; omega) (by rw [nv_cn]; exact hy0)
    rw [nv_cn, nv_cn] at hg
    refine nx ?_
    refine ⟨_, hC _ _ _ hg, ?_⟩
    refine nx ?_
    have hlt := Nat.mod_lt x (Nat.pos_of_ne_zero hy0)
    refine ⟨(y, x % y), [], ⟨hy, by simp only; omega, ?_⟩, hlt, rfl, rfl, rfl⟩
    simp only
    rw [← he, Nat.gcd_comm y, ← Nat.gcd_rec, Nat.gcd_comm]
  · have hy0 : y = 0 := by
      have h1 : (Ψ .cn y).length = 0 := by
        have := of_decide_eq_false h
        simp only [wz] at this
        omega
      exact cn_eq_nil.1 (List.eq_nil_of_length_eq_zero h1)
    subst hy0
    rw [Nat.gcd_zero_right] at he
    subst he
    exact nx trivial
end Go.K.S
end
section
/-
  Contracts of rat: one, made, Read, size, Of.
-/
namespace Go.K
theorem made_one {b : Bool} {m n : Nat} (hm : m ≠ 0) (hn : n ≠ 0) (hg : m.gcd n = 1) : Ψ .cr (mkRat (sg b m) n) = ⟨b, Ψ .cn m, Ψ .cn n⟩ := by
  rw [cr_mk hm hn, hg, Nat.div_one, Nat.div_one]
theorem cn_gt_one {g : Nat} (hg : g ≠ 0) : (1 < (Ψ .cn g).length ∨ ∃ v, (Ψ .cn g)[0]? = some v ∧ (Ψ .cn g).length = 1 ∧ v = g) := by
  obtain ⟨x, m, hl, hx, h0, hxl, h1, h2, h3⟩ := cn_top hg
  rcases Nat.eq_zero_or_pos m with c | c
  · subst c
    refine .inr ⟨x, hx, by omega, ?_⟩
    simp at h3
    exact h3.symm
  · exact .inl (by omega)
end Go.K
namespace Go.K.S
open Go Go.K
set_option maxHeartbeats 4000000
set_option maxRecDepth 20000
set_option linter.unusedVariables false
set_option linter.unusedSimpArgs false

theorem one_good : Good P F.rat_one [] [] (.d (dN Ψ [1])) [] := by
  refine G.rat_one fun C C2 hC hC2 => ?_
  refine nx ?_
  rfl

theorem made_good (b : Bool) (x y : List Nat) (hx : N x) (hy : N y) (hxl : x.length < 549755813888) (hyl : y.length < 549755813888) :
    Good P F.rat_made [.d (.b b), .d (dN Ψ x), .d (dN Ψ y)] [] (.d (.agg (dR Ψ (Ψ .cr (mkRat (sg b (nv x)) (nv y)))))) [] := by
  refine G.rat_made fun C C2 hC hC2 => ?_
  have g1 := norm_good x hx
  have g2 := norm_good y hy
  have hnx := hx.cn
  have hny := hy.cn
  have hlx := len_cn_nv hx.lim
  have hly := len_cn_nv hy.lim
  generalize nv x = m at *
  generalize nv y = n at *
  obtain ⟨R, hR⟩ : ∃ R, R = Ψ .cr (mkRat (sg b m) n) := ⟨_, rfl⟩
  rw [← hR]
  have hz : m = 0 ∨ n = 0 → R = ⟨false, [], [1]⟩ := fun h => by
    rw [hR, ← cr_zero]
    rcases h with rfl | rfl
    · rw [mk_zero_num]
    · rw [mk_zero_den]
  refine nx ?_
  refine ⟨_, hC _ _ _ g1, ?_⟩
  refine nx ?_
  refine ⟨_, hC _ _ _ g2, ?_⟩
  refine nx ?_
  refine BrG.split (fun h => ?_) (fun h => ?_)
  · have h0 : m = 0 := cn_eq_nil.1 (List.eq_nil_of_length_eq_zero (by have := h; simp only [wz] at this ⊢; omega))
    have := hz (.inl h0)
    subst this
    refine nx ?_
    refine ⟨_, hC _ _ _ one_good, ?_⟩
    refine nx ?_
    rfl
  · have h0 : m ≠ 0 := fun q => by subst q; rw [cn_zero] at h; simp [wz] at h
    refine nx ?_
    refine BrG.split (fun h => ?_) (fun h => ?_)
    · have h0 : n = 0 := cn_eq_nil.1 (List.eq_nil_of_length_eq_zero (by have := h; simp only [wz] at this ⊢; omega))
      have := hz (.inr h0)
      subst this
      refine nx ?_
      refine ⟨_, hC _ _ _ one_good, ?_⟩
      refine nx ?_
      rfl
    · have h1 : n ≠ 0 := fun q => by subst q; rw [cn_zero] at h; simp [wz] at h
      have g3 := gcd_good (Ψ .cn m) (Ψ .cn n) hnx hny (by omega) (by omega)
      rw [nv_cn, nv_cn] at g3
      have hg0 : m.gcd n ≠ 0 := Nat.gcd_ne_zero_left h0
      have hcr := cr_mk (b := b) h0 h1
      rw [← hR] at hcr
      obtain ⟨g, hg⟩ : ∃ g, g = m.gcd n := ⟨_, rfl⟩
      have hgl : (Ψ .cn g).length ≤ (Ψ .cn m).length := len_cn_eq (by rw [hg]; exact Nat.gcd_le_left n (Nat.pos_of_ne_zero h0))
      rw [← hg] at g3 hg0 hcr
      have g4 := divmod_good (Ψ .cn m) (Ψ .cn g) hnx ⟨lim_cn _, by have := hnx.len; omega⟩ (by omega) (by rw [nv_cn]; exact hg0)
      have g5 := divmod_good (Ψ .cn n) (Ψ .cn g) hny ⟨lim_cn _, by have := hnx.len; omega⟩ (by omega) (by rw [nv_cn]; exact hg0)
      rw [nv_cn, nv_cn] at g4 g5
      refine nx ?_
      refine ⟨_, hC _ _ _ g3, ?_⟩
      refine nx ?_
      refine BrG.split (fun h => ?_) (fun h => ?_)
      · refine nx ?_
        refine ⟨_, hC _ _ _ g4, ?_⟩
        refine nx ?_
        refine ⟨_, hC _ _ _ g5, ?_⟩
        subst hcr
        exact nx trivial
      · have hle : (Ψ .cn g).length = 1 := by
          have := h; simp only [wz] at this
          have h3 : (Ψ .cn g).length ≠ 0 := fun q => hg0 (cn_eq_nil.1 (List.eq_nil_of_length_eq_zero q))
          omega
        obtain ⟨v, hv, _, hvg⟩ := (cn_gt_one hg0).resolve_left (by omega)
        refine nx ?_
        refine (idx_lims (l := Ψ .cn g) 0 v rfl hv rfl ?_).2
        refine nx ?_
        refine BrG.split (fun h => ?_) (fun h => ?_)
        · refine nx ?_
          refine ⟨_, hC _ _ _ g4, ?_⟩
          refine nx ?_
          refine ⟨_, hC _ _ _ g5, ?_⟩
          subst hcr
          exact nx trivial
        · have hg1 : g = 1 := by
            have := h; simp only [wz] at this
            omega
          subst hg1
          rw [Nat.div_one, Nat.div_one] at hcr
          subst hcr
          exact nx trivial

theorem read_good (r : RL) {k : Nat} (h : Rn k r) (hk : k < 549755813888) : Good P F.rat_Read [.d (.agg (dR Ψ r))] [] (.d (.agg (dR Ψ (Ψ .cr (rv r))))) [] := by
  refine G.rat_Read fun C C2 hC hC2 => ?_
  have g := made_good r.neg r.num r.den ⟨h.ln, by have := h.kn; omega⟩ ⟨h.ld, by have := h.kd; omega⟩ (by have := h.kn; omega) (by have := h.kd; omega)
  rw [← rv_mk] at g
  obtain ⟨b, x, y⟩ := r
  obtain ⟨R, hR⟩ : ∃ R, R = Ψ .cr (rv ⟨b, x, y⟩) := ⟨_, rfl⟩
  simp only at g
  rw [← hR] at g ⊢
  refine nx ?_
  refine ⟨_, hC _ _ _ g, ?_⟩
  exact nx trivial
end Go.K.S
end
section
/-
  K, lists of numbers as data; what is reckoned of fractions: plain Lean.
-/
namespace Go.K
open Go
set_option linter.unusedSimpArgs false
theorem sget_dRs (l : List RL) (k : Nat) : Ω .sget (Ψ .dRs l) k = (l[k]?).map fun r => (D.agg (dR Ψ r) : D) := by simp [w_sget, p_dRs]
theorem idx_dRs {l : List RL} {k : Int} {sz : Nat} {R : D → Prop} (kn : Nat) (r : RL) (hk : k = Ω .ci kn) (hv : l[kn]? = some r) (hsz : 3 = sz) (h : R (.agg (dR Ψ r))) :
    Ω .ile 0 k ∧ ∃ x, Ω .sget (Ψ .dRs l) (Ω .tn k) = some x ∧ x.cells.length = sz ∧ R x := by
  subst hk
  refine ⟨ci_nonneg _, .agg (dR Ψ r), ?_, hsz, h⟩
  rw [tn_ci, sget_dRs, hv]; rfl
theorem dRs_nil : ([] : List D) = Ψ .dRs [] := rfl
theorem dRs_cons (r : RL) (l : List RL) : D.agg (dR Ψ r) :: Ψ .dRs l = Ψ .dRs (r :: l) := rfl

/-- one that can be reckoned with as it stands -/
def wh (r : RL) : RL := if nv r.den = 0 then ⟨false, [], [1]⟩ else r
theorem wh_zero {r : RL} (h : nv r.den = 0) : wh r = ⟨false, [], [1]⟩ := if_pos h
theorem wh_ne {r : RL} (h : nv r.den ≠ 0) : wh r = r := if_neg h
theorem rv_wh (r : RL) : rv (wh r) = rv r := by
  unfold wh
  split
  · rename_i h
    simp [rv, h, sg]
  · rfl
theorem wh_den (r : RL) : nv (wh r).den ≠ 0 := by
  unfold wh
  split
  · simp
  · assumption
theorem Rn_wh {r : RL} {k : Nat} (h : Rn k r) (hk : 0 < k) : Rn k (wh r) := by
  unfold wh
  split
  · exact ⟨lim_nil, by simp [lim_cons, lim_nil], by simp, by simp; omega⟩
  · exact h
theorem Rn.N1 {r : RL} {k : Nat} (h : Rn k r) (hk : k < 1099511627776) : N r.num := ⟨h.ln, by have := h.kn; omega⟩
theorem Rn.N2 {r : RL} {k : Nat} (h : Rn k r) (hk : k < 1099511627776) : N r.den := ⟨h.ld, by have := h.kd; omega⟩
theorem N_cn {n k : Nat} (h : n < 4294967296 ^ k) (hk : k < 1099511627776) : N (Ψ .cn n) := ⟨lim_cn _, by have := len_cn.2 h; omega⟩
theorem nv_lt_pow {l : List Nat} {k : Nat} (h : lim l) (hk : l.length ≤ k) : nv l < 4294967296 ^ k := Nat.lt_of_lt_of_le (nv_lt h) (B_mono hk)

theorem rv_add {a b : RL} (ha : nv a.den ≠ 0) (hb : nv b.den ≠ 0) :
    rv a + rv b = mkRat (sg a.neg (nv a.num * nv b.den) + sg b.neg (nv b.num * nv a.den)) (nv a.den * nv b.den) := by
  simp only [rv]
  rw [Rat.mkRat_add_mkRat _ _ ha hb, sg_mul_nat, sg_mul_nat]
theorem rv_mul (a b : RL) : rv a * rv b = mkRat (sg (a.neg != b.neg) (nv a.num * nv b.num)) (nv a.den * nv b.den) := by
  simp only [rv]
  rw [Rat.mkRat_mul_mkRat, sg_mul]
theorem rv_neg (r : RL) : rv ⟨!r.neg, r.num, r.den⟩ = - rv r := by
  simp only [rv, sg_not, Rat.neg_mkRat]
theorem rv_inv (r : RL) : rv ⟨r.neg, r.den, r.num⟩ = (rv r)⁻¹ := by
  simp only [rv]
  by_cases h1 : nv r.num = 0
  · rw [h1, mk_zero_den, sg_zero, Rat.zero_mkRat, Rat.inv_zero]
  by_cases h2 : nv r.den = 0
  · rw [h2, mk_zero_den, mk_zero_num, Rat.inv_zero]
  have e1 : mkRat (sg r.neg (nv r.num)) (nv r.den) * mkRat (sg r.neg (nv r.den)) (nv r.num) = 1 := by
    rw [Rat.mkRat_mul_mkRat, sg_mul, show (r.neg != r.neg) = false by simp, Nat.mul_comm (nv r.den)]
    rw [Rat.mkRat_eq_div]
    have : ((nv r.num * nv r.den : Nat) : Rat) ≠ 0 := by exact_mod_cast Nat.mul_ne_zero h1 h2
    simp only [sg, Bool.false_eq_true, if_false]
    have e : (((nv r.num * nv r.den : Nat) : Int) : Rat) = ((nv r.num * nv r.den : Nat) : Rat) := by push_cast; rfl
    rw [e]
    grind
  grind
theorem rv_zero_iff {r : RL} : rv r = 0 ↔ nv r.num = 0 ∨ nv r.den = 0 := by
  simp only [rv]
  by_cases h : nv r.den = 0
  · simp [h]
  · rw [Rat.mkRat_eq_zero h, sg_eq_zero]; simp [h]
theorem cr_num_nil {q : Rat} : (Ψ .cr q).num = [] ↔ q = 0 := by
  simp only [p_cr, cn_eq_nil]
  simp
end Go.K
namespace Go.K
open Go
theorem cr_neg_eq (q : Rat) : (Ψ .cr q).neg = decide (q.num < 0) := rfl
/-- what two share goes first -/
theorem cr_mul {p q : Rat} (hp : p ≠ 0) (hq : q ≠ 0) : Ψ .cr (p * q) =
    ⟨(Ψ .cr p).neg != (Ψ .cr q).neg, Ψ .cn (p.num.natAbs / p.num.natAbs.gcd q.den * (q.num.natAbs / q.num.natAbs.gcd p.den)), Ψ .cn (q.den / p.num.natAbs.gcd q.den * (p.den / q.num.natAbs.gcd p.den))⟩ := by
  have hn : (p * q).num = p.num.tdiv (p.num.natAbs.gcd q.den) * q.num.tdiv (q.num.natAbs.gcd p.den) := by
    show (Rat.mul p q).num = _
    unfold Rat.mul
    simp only [Int.divExact_eq_tdiv]
  have hd : (p * q).den = p.den / q.num.natAbs.gcd p.den * (q.den / p.num.natAbs.gcd q.den) := by
    show (Rat.mul p q).den = _
    unfold Rat.mul
    simp only [Nat.divExact_eq_div]
  have hab : (p * q).num.natAbs = p.num.natAbs / p.num.natAbs.gcd q.den * (q.num.natAbs / q.num.natAbs.gcd p.den) := by
    rw [hn, Int.natAbs_mul, Int.natAbs_tdiv, Int.natAbs_tdiv]
    rfl
  have hp0 : p.num ≠ 0 := by simpa [wz] using hp
  have hq0 : q.num ≠ 0 := by simpa [wz] using hq
  have hneg : decide ((p * q).num < 0) = (decide (p.num < 0) != decide (q.num < 0)) := by
    have h1 : (p * q).num < 0 ↔ p.num * q.num < 0 := by
      have e1 := @Rat.num_nonneg (p * q)
      have e2 : 0 ≤ p * q ↔ 0 ≤ p.num * q.num := by
        rw [Rat.mul_def' p q]
        have := @mk_lt_zero (p.num * q.num) (p.den * q.den) (Nat.mul_ne_zero p.den_nz q.den_nz)
        rw [← Rat.not_lt, this]
        omega
      have e3 : 0 ≤ (p * q).num ↔ 0 ≤ p.num * q.num := e1.trans e2
      omega
    rcases Int.lt_or_gt_of_ne hp0 with c1 | c1 <;> rcases Int.lt_or_gt_of_ne hq0 with c2 | c2
    · have := Int.mul_pos_of_neg_of_neg c1 c2
      rw [decide_eq_true c1, decide_eq_true c2]
      simp only [bne_self_eq_false]
      exact decide_eq_false (by omega)
    · have := Int.mul_neg_of_neg_of_pos c1 c2
      rw [decide_eq_true c1, decide_eq_false (by omega : ¬ q.num < 0)]
      exact decide_eq_true (by omega)
    · have := Int.mul_neg_of_pos_of_neg c1 c2
      rw [decide_eq_false (by omega : ¬ p.num < 0), decide_eq_true c2]
      exact decide_eq_true (by omega)
    · have := Int.mul_pos c1 c2
      rw [decide_eq_false (by omega : ¬ p.num < 0), decide_eq_false (by omega : ¬ q.num < 0)]
      exact decide_eq_false (by omega)
  simp only [p_cr, hab, hd, hneg]
  rw [Nat.mul_comm (p.den / _)]
def rsum (l : List RL) : Rat := (l.map rv).foldl (· + ·) 0
def rprod (l : List RL) : Rat := (l.map rv).foldl (· * ·) 1
theorem rsum_snoc (l : List RL) (r : RL) : rsum (l ++ [r]) = rsum l + rv r := by simp [rsum]
theorem rprod_snoc (l : List RL) (r : RL) : rprod (l ++ [r]) = rprod l * rv r := by simp [rprod]
theorem take_succ_of {α : Type} {l : List α} {i : Nat} {x : α} (h : l[i]? = some x) : l.take (i + 1) = l.take i ++ [x] := by
  rw [List.take_add_one, h]; rfl
theorem Qn_one' : Qn 1 1 := Qn_one (by omega)
theorem cr_one : Ψ .cr 1 = ⟨false, [1], [1]⟩ := by
  have h2 : Ψ .cn 1 = [1] := cn_one
  simp [p_cr, h2]
end Go.K
namespace Go.K
open Go
theorem sI_vals (q : Rat) : Ψ .sI q = -1 ∧ q < 0 ∨ Ψ .sI q = 0 ∧ q = 0 ∨ Ψ .sI q = 1 ∧ 0 < q := by
  simp only [p_sI]
  by_cases h1 : q < 0
  · rw [if_pos h1]; exact .inl ⟨rfl, h1⟩
  · by_cases h2 : 0 < q
    · rw [if_neg h1, if_pos h2]; exact .inr (.inr ⟨rfl, h2⟩)
    · rw [if_neg h1, if_neg h2]; exact .inr (.inl ⟨rfl, Rat.le_antisymm (Rat.not_lt.1 h2) (Rat.not_lt.1 h1)⟩)
theorem cI_vals (p q : Rat) : Ψ .cI p q = -1 ∧ p < q ∨ Ψ .cI p q = 0 ∧ p = q ∨ Ψ .cI p q = 1 ∧ q < p := by
  simp only [p_cI]
  by_cases h1 : p < q
  · rw [if_pos h1]; exact .inl ⟨rfl, h1⟩
  · by_cases h2 : q < p
    · rw [if_neg h1, if_pos h2]; exact .inr (.inr ⟨rfl, h2⟩)
    · rw [if_neg h1, if_neg h2]; exact .inr (.inl ⟨rfl, Rat.le_antisymm (Rat.not_lt.1 h2) (Rat.not_lt.1 h1)⟩)
theorem cI_sign_ne {p q : Rat} (h : Ψ .sI p ≠ Ψ .sI q) : Ψ .cI p q = if Ψ .sI p < Ψ .sI q then -1 else 1 := by
  have key : Ψ .sI p < Ψ .sI q ↔ p < q := by
    rcases sI_vals p with ⟨e1, h1⟩ | ⟨e1, h1⟩ | ⟨e1, h1⟩ <;> rcases sI_vals q with ⟨e2, h2⟩ | ⟨e2, h2⟩ | ⟨e2, h2⟩ <;> first | exact absurd (e1.trans e2.symm) h | (rw [e1, e2]; constructor <;> intro h3 <;> first | omega | grind)
  simp only [key]
  rcases cI_vals p q with ⟨e, h3⟩ | ⟨e, h3⟩ | ⟨e, h3⟩
  · rw [e, if_pos h3]
  · subst h3; exact absurd rfl h
  · rw [e, if_neg (Rat.not_lt.2 (Rat.le_of_lt h3))]
theorem sI_rv {r : RL} (h1 : nv r.num ≠ 0) (h2 : nv r.den ≠ 0) : Ψ .sI (rv r) = if r.neg then -1 else 1 := sI_mk h1 h2
theorem cI_sign_eq {a b : RL} (h : Ψ .sI (rv a) = Ψ .sI (rv b)) : Ψ .cI (rv a) (rv b) = Ψ .sI (rv a) * Ψ .cmpI (nv a.num * nv b.den) (nv b.num * nv a.den) := by
  by_cases h0 : rv a = 0
  · have h1 : Ψ .sI (rv b) = 0 := by rw [← h]; exact sI_zero.2 h0
    rw [h, h1, h0, sI_zero.1 h1, Int.zero_mul]
    exact cI_zero.2 rfl
  · have hb0 : rv b ≠ 0 := fun c => h0 (sI_zero.1 (by rw [h]; exact sI_zero.2 c))
    have ha := mt (@rv_zero_iff a).2 h0
    have hb := mt (@rv_zero_iff b).2 hb0
    have a1 : nv a.num ≠ 0 := fun c => ha (.inl c)
    have a2 : nv a.den ≠ 0 := fun c => ha (.inr c)
    have b1 : nv b.num ≠ 0 := fun c => hb (.inl c)
    have b2 : nv b.den ≠ 0 := fun c => hb (.inr c)
    have e1 := sI_rv a1 a2
    have e2 := sI_rv b1 b2
    rw [e1, e2] at h
    have hs : a.neg = b.neg := by
      revert h
      cases a.neg <;> cases b.neg <;> simp
    have e3 := cI_mk (b := a.neg) (m := nv a.num) (m' := nv b.num) a2 b2
    rw [e1, ← e3]
    show Ψ .cI (mkRat _ _) (mkRat _ _) = _
    rw [hs]
theorem sI_lt (q : Rat) : -1 ≤ Ψ .sI q ∧ Ψ .sI q ≤ 1 := by
  rcases sI_vals q with ⟨e, _⟩ | ⟨e, _⟩ | ⟨e, _⟩ <;> rw [e] <;> decide
theorem cmpI_lt (m n : Nat) : -1 ≤ Ψ .cmpI m n ∧ Ψ .cmpI m n ≤ 1 := by simp only [p_cmpI]; split <;> (try split) <;> omega
theorem cI_lt (p q : Rat) : -1 ≤ Ψ .cI p q ∧ Ψ .cI p q ≤ 1 := by
  rcases cI_vals p q with ⟨e, _⟩ | ⟨e, _⟩ | ⟨e, _⟩ <;> rw [e] <;> decide
end Go.K
end
section
/-
  Contracts of nat: Add, Sub.
-/
namespace Go.K.S
open Go Go.K
set_option maxHeartbeats 1000000
set_option linter.unusedVariables false
set_option linter.unusedSimpArgs false

theorem add_good (a b : List Nat) (ha : N a) (hb : N b) (hal : a.length < 549755813888) (hbl : b.length < 549755813888) : Good P F.nat_Add [.d (dN Ψ a), .d (dN Ψ b)] [] (.d (dN Ψ (Ψ .cn (nv a + nv b)))) [] := by
  refine G.nat_Add fun C C2 hC hC2 => ?_
  refine nx ?_
  refine ⟨_, hC _ _ _ (trim_good a ha.lim ha.len), ?_⟩
  refine nx ?_
  refine ⟨_, hC _ _ _ (trim_good b hb.lim hb.len), ?_⟩
  have hna := ha.cn.lim
  have hnb := hb.cn.lim
  have hal := Nat.lt_of_le_of_lt (len_cn_nv ha.lim) hal
  have hbl := Nat.lt_of_le_of_lt (len_cn_nv hb.lim) hbl
  have hva := nv_cn (nv a)
  have hvb := nv_cn (nv b)
  generalize Ψ .cn (nv a) = x at *
  generalize Ψ .cn (nv b) = y at *
  refine nx ?_
  refine BrG.split (fun h => ?_) (fun h => ?_)
  focus
    have hlt : x.length < y.length := by have := h; simp only [wz] at this; omega
    refine nx ?_
    obtain ⟨p, hp⟩ : ∃ p, p = y := ⟨_, rfl⟩
    obtain ⟨q, hq⟩ : ∃ q, q = x := ⟨_, rfl⟩
    subst hp
    subst hq
    have hs : nv p + nv q = nv a + nv b := by omega
    have hlen : q.length ≤ p.length := by omega
    have hpl : p.length < 549755813888 := hbl
    have hpn : lim p := hnb
    have hqn : lim q := hna
    clear hlt h hva hvb hna hnb hal hbl
  rotate_left
  focus
    have hlt : y.length ≤ x.length := by have := h; simp only [wz] at this; omega
    refine nx ?_
    obtain ⟨p, hp⟩ : ∃ p, p = x := ⟨_, rfl⟩
    obtain ⟨q, hq⟩ : ∃ q, q = y := ⟨_, rfl⟩
    subst hp
    subst hq
    have hs : nv p + nv q = nv a + nv b := by omega
    have hlen : q.length ≤ p.length := by omega
    have hpl : p.length < 549755813888 := hal
    have hpn : lim p := hna
    have hqn : lim q := hnb
    clear hlt h hva hvb hna hnb hal hbl
  all_goals
    have hw : Ω .wrap .i64 (Ω .ci p.length + 1) = Ω .ci (p.length + 1) := wrap_succ (by omega)
    rw [hw]
    refine ⟨ci_nonneg _, by simp only [wz]; omega, by simp only [wz]; omega, ?_⟩
    refine LoopG.intro (σ := Nat × List Nat × Nat) [1, 5, 6, 26, 27, 28] [1050]
      (fun s => [.d (dN Ψ q), .own 1050 1, .d (.i .u32 (Ω .ci s.2.2)), .d (dN Ψ p), .d (.i .i64 (Ω .ci p.length)), .d (.i .i64 (Ω .ci s.1))])
      (fun s => [.row true T.uint32 1 (Ψ .lims s.2.1)])
      (fun s => s.1 ≤ p.length ∧ s.2.1.length = s.1 ∧ lim s.2.1 ∧ s.2.2 ≤ 1 ∧ nv s.2.1 + 4294967296 ^ s.1 * s.2.2 = nv (p.take s.1) + nv (q.take s.1))
      (fun s => p.length - s.1) (0, [], 0) [1403] ⟨Nat.zero_le _, rfl, lim_nil, Nat.zero_le _, by simp⟩ ⟨rfl, rfl, rfl⟩ ?_
    rintro ⟨i, z, c⟩ ⟨hi, hzl, hzn, hc, he⟩
    simp only at hi hzl hzn hc he
    refine nx ?_
    refine BrG.split (fun h => ?_) (fun h => ?_)
    · have hi2 : i < p.length := by have := h; simp only [wz] at this; omega
      obtain ⟨u, hu⟩ : ∃ u, p[i]? = some u := ⟨_, List.getElem?_eq_getElem hi2⟩
      have hul := lim_get hpn hu
      have hud : p.getD i 0 = u := by simp [List.getD, hu]
      refine nx ?_
      refine idx_lims i u rfl hu rfl ?_
      refine nx ?_
      have hvl := getD_lt hqn i
      have fin : ∀ v, v = q.getD i 0 → ((4294967296 ^ (i + 1) = 4294967296 ^ i * 4294967296) ∧ (i + 1 ≤ p.length ∧ (z ++ [(u + v + c) % 4294967296]).length = i + 1 ∧ lim (z ++ [(u + v + c) % 4294967296]) ∧ (u + v + c) / 4294967296 ≤ 1 ∧
          nv (z ++ [(u + v + c) % 4294967296]) + 4294967296 ^ (i + 1) * ((u + v + c) / 4294967296) = nv (p.take (i + 1)) + nv (q.take (i + 1)))) := fun v hv => by
        refine ⟨Nat.pow_succ _ _, hi2, by simp [hzl], lim_append.2 ⟨hzn, by simp [lim_cons, lim_nil]; omega⟩, by omega, ?_⟩
        rw [nv_snoc, hzl, nv_take_succ', nv_take_succ', hud, ← hv, Nat.pow_succ]
        exact add_step he
      refine nx ?_
      refine BrG.split (fun h => ?_) (fun h => ?_)
      · have hi3 : i < q.length := by have := h; simp only [wz] at this; omega
        obtain ⟨v, hv⟩ : ∃ v, q[i]? = some v := ⟨_, List.getElem?_eq_getElem hi3⟩
        have hvd : q.getD i 0 = v := by simp [List.getD, hv]
        rw [hvd] at hvl
        refine nx ?_
        refine idx_lims i v rfl hv rfl ?_
        refine nx ?_
        refine ⟨_, hC _ _ _ (add32_good u v c hul hvl hc), ?_⟩
        refine nx ?_
        refine ⟨cells_one _ _, (by simp only [wz]; omega), (i + 1, z ++ [(u + v + c) % 4294967296], (u + v + c) / 4294967296), [2403], (fin v hvd.symm).2, by simp only; omega, rfl, ?_, ?_⟩
        · refine Eq.trans (b := [.d (dN Ψ q), .own 1050 1, .d (.i .u32 (Ω .ci _)), .d (dN Ψ p), .d (.i .i64 (Ω .ci p.length)), .d (.i .i64 _)]) rfl ?_
          rw [wrap_succ (by omega)]
        · refine Eq.trans (b := [.row true T.uint32 1 _]) rfl ?_
          rw [scat_snoc]
      · have hi3 : q.length ≤ i := by have := h; simp only [wz] at this; omega
        have hvd : q.getD i 0 = 0 := by simp [List.getD, hi3]
        refine nx ?_
        refine ⟨_, hC _ _ _ (add32_good u 0 c hul (by omega) hc), ?_⟩
        refine nx ?_
        refine ⟨cells_one _ _, (by simp only [wz]; omega), (i + 1, z ++ [(u + 0 + c) % 4294967296], (u + 0 + c) / 4294967296), [2403], (fin 0 hvd.symm).2, by simp only; omega, rfl, ?_, ?_⟩
        · refine Eq.trans (b := [.d (dN Ψ q), .own 1050 1, .d (.i .u32 (Ω .ci _)), .d (dN Ψ p), .d (.i .i64 (Ω .ci p.length)), .d (.i .i64 _)]) rfl ?_
          rw [wrap_succ (by omega)]
        · refine Eq.trans (b := [.row true T.uint32 1 _]) rfl ?_
          rw [scat_snoc]
    · have hi2 : i = p.length := by have := h; simp only [wz] at this; omega
      subst hi2
      rw [List.take_length, List.take_of_length_le hlen, hs] at he
      have hg := trim_good (z ++ [c]) (lim_append.2 ⟨hzn, by simp [lim_cons, lim_nil]; omega⟩) (by simp; omega)
      rw [nv_snoc, hzl, he] at hg
      refine nx ?_
      refine ⟨cells_one _ _, (by simp only [wz]; omega), ?_⟩
      rw [scat_snoc]
      refine nx ?_
      refine ⟨_, hC _ _ _ hg, ?_⟩
      exact nx trivial
end Go.K.S
namespace Go.K.S
open Go Go.K
set_option maxHeartbeats 1000000
set_option linter.unusedVariables false
set_option linter.unusedSimpArgs false

theorem sub_good_lt (a b : List Nat) (ha : N a) (hb : N b) (hlt : nv a < nv b) : Good P F.nat_Sub [.d (dN Ψ a), .d (dN Ψ b)] [] (.tup [.d (dN Ψ []), .d (.b false)]) [] := by
  refine G.nat_Sub fun C C2 hC hC2 => ?_
  refine nx ?_
  refine ⟨_, hC _ _ _ (cmp_good a b ha hb), ?_⟩
  refine nx ?_
  refine BrG.split (fun h => ?_) (fun h => ?_)
  · refine nx ?_
    rfl
  · exact absurd (cmpI_neg.2 hlt) (of_decide_eq_false h)

theorem sub_good (a b : List Nat) (ha : N a) (hb : N b) (hge : nv b ≤ nv a) : Good P F.nat_Sub [.d (dN Ψ a), .d (dN Ψ b)] [] (.tup [.d (dN Ψ (Ψ .cn (nv a - nv b))), .d (.b true)]) [] := by
  refine G.nat_Sub fun C C2 hC hC2 => ?_
  refine nx ?_
  refine ⟨_, hC _ _ _ (cmp_good a b ha hb), ?_⟩
  refine nx ?_
  refine BrG.split (fun h => ?_) (fun h => ?_)
  · have := cmpI_neg.1 (of_decide_eq_true h); omega
  refine nx ?_
  refine ⟨_, hC _ _ _ (trim_good a ha.lim ha.len), ?_⟩
  refine nx ?_
  refine ⟨_, hC _ _ _ (trim_good b hb.lim hb.len), ?_⟩
  have hpn := ha.cn.lim
  have hqn := hb.cn.lim
  have hpl := ha.cn.len
  have hlen : (Ψ .cn (nv b)).length ≤ (Ψ .cn (nv a)).length := by
    rcases Nat.lt_or_ge (Ψ .cn (nv a)).length (Ψ .cn (nv b)).length with q | q
    · have := cn_len_lt q; omega
    · exact q
  have hva := nv_cn (nv a)
  have hvb := nv_cn (nv b)
  generalize Ψ .cn (nv a) = p at *
  generalize Ψ .cn (nv b) = q at *
  refine nx ?_
  refine ⟨ci_nonneg _, by simp only [wz]; omega, by simp only [wz]; omega, ?_⟩
  refine LoopG.intro (σ := Nat × List Nat × Nat) [1, 6, 7, 23, 24, 25] [1050]
    (fun s => [.d (dN Ψ q), .own 1050 1, .d (.i .u32 (Ω .ci s.2.2)), .d (dN Ψ p), .d (.i .i64 (Ω .ci p.length)), .d (.i .i64 (Ω .ci s.1))])
    (fun s => [.row true T.uint32 1 (Ψ .lims s.2.1)])
    (fun s => s.1 ≤ p.length ∧ s.2.1.length = s.1 ∧ lim s.2.1 ∧ s.2.2 ≤ 1 ∧ nv s.2.1 + nv (q.take s.1) = nv (p.take s.1) + 4294967296 ^ s.1 * s.2.2)
    (fun s => p.length - s.1) (0, [], 0) [1402] ⟨Nat.zero_le _, rfl, lim_nil, Nat.zero_le _, by simp⟩ ⟨rfl, rfl, rfl⟩ ?_
  rintro ⟨i, z, c⟩ ⟨hi, hzl, hzn, hc, he⟩
  simp only at hi hzl hzn hc he
  refine nx ?_
  refine BrG.split (fun h => ?_) (fun h => ?_)
  · have hi2 : i < p.length := by have := h; simp only [wz] at this; omega
    obtain ⟨u, hu⟩ : ∃ u, p[i]? = some u := ⟨_, List.getElem?_eq_getElem hi2⟩
    have hul := lim_get hpn hu
    have hud : p.getD i 0 = u := by simp [List.getD, hu]
    refine nx ?_
    refine idx_lims i u rfl hu rfl ?_
    refine nx ?_
    have hvl := getD_lt hqn i
    have fin : ∀ v, v = q.getD i 0 → (i + 1 ≤ p.length ∧ (z ++ [(4294967296 + u - v - c) % 4294967296]).length = i + 1 ∧ lim (z ++ [(4294967296 + u - v - c) % 4294967296]) ∧ (if u < v + c then 1 else 0) ≤ 1 ∧
        nv (z ++ [(4294967296 + u - v - c) % 4294967296]) + nv (q.take (i + 1)) = nv (p.take (i + 1)) + 4294967296 ^ (i + 1) * (if u < v + c then 1 else 0)) := fun v hv => by
      refine ⟨hi2, by simp [hzl], lim_append.2 ⟨hzn, by simp [lim_cons, lim_nil]; omega⟩, by split <;> omega, ?_⟩
      rw [nv_snoc, hzl, nv_take_succ', nv_take_succ', hud, ← hv, Nat.pow_succ]
      exact sub_step he (by split <;> omega)
    refine nx ?_
    refine BrG.split (fun h => ?_) (fun h => ?_)
    · have hi3 : i < q.length := by have := h; simp only [wz] at this; omega
      obtain ⟨v, hv⟩ : ∃ v, q[i]? = some v := ⟨_, List.getElem?_eq_getElem hi3⟩
      have hvd : q.getD i 0 = v := by simp [List.getD, hv]
      rw [hvd] at hvl
      refine nx ?_
      refine idx_lims i v rfl hv rfl ?_
      refine nx ?_
      refine ⟨_, hC _ _ _ (sub32_good u v c hul hvl hc), ?_⟩
      have hf := fin v hvd.symm
      generalize (if u < v + c then 1 else 0) = c' at *
      refine nx ?_
      refine ⟨cells_one _ _, (by simp only [wz]; omega), (i + 1, z ++ [(4294967296 + u - v - c) % 4294967296], c'), [2403], hf, by simp only; omega, rfl, ?_, ?_⟩
      · refine Eq.trans (b := [.d (dN Ψ q), .own 1050 1, .d (.i .u32 (Ω .ci _)), .d (dN Ψ p), .d (.i .i64 (Ω .ci p.length)), .d (.i .i64 _)]) rfl ?_
        rw [wrap_succ (by omega)]
      · refine Eq.trans (b := [.row true T.uint32 1 _]) rfl ?_
        rw [scat_snoc]
    · have hi3 : q.length ≤ i := by have := h; simp only [wz] at this; omega
      have hvd : q.getD i 0 = 0 := by simp [List.getD, hi3]
      refine nx ?_
      refine ⟨_, hC _ _ _ (sub32_good u 0 c hul (by omega) hc), ?_⟩
      have hf := fin 0 hvd.symm
      generalize (if u < 0 + c then 1 else 0) = c' at *
      refine nx ?_
      refine ⟨cells_one _ _, (by simp only [wz]; omega), (i + 1, z ++ [(4294967296 + u - 0 - c) % 4294967296], c'), [2403], hf, by simp only; omega, rfl, ?_, ?_⟩
      · refine Eq.trans (b := [.d (dN Ψ q), .own 1050 1, .d (.i .u32 (Ω .ci _)), .d (dN Ψ p), .d (.i .i64 (Ω .ci p.length)), .d (.i .i64 _)]) rfl ?_
        rw [wrap_succ (by omega)]
      · refine Eq.trans (b := [.row true T.uint32 1 _]) rfl ?_
        rw [scat_snoc]
  · have hi2 : i = p.length := by have := h; simp only [wz] at this; omega
    subst hi2
    rw [List.take_length, List.take_of_length_le hlen] at he
    have hzb := nv_lt hzn
    rw [hzl] at hzb
    have hc0 : c = 0 := by
      rcases Nat.lt_or_ge 0 c with q | q
      · have : c = 1 := by omega
        subst this
        omega
      · omega
    subst hc0
    have hg := trim_good z hzn (by omega)
    rw [show nv z = nv a - nv b by omega] at hg
    refine nx ?_
    refine ⟨_, hC _ _ _ hg, ?_⟩
    exact nx trivial
end Go.K.S
end
section
/-
  Contracts of rat: whole, plus.
-/
namespace Go.K.S
open Go Go.K
set_option maxHeartbeats 4000000
set_option maxRecDepth 20000
set_option linter.unusedVariables false
set_option linter.unusedSimpArgs false

theorem whole_good (r : RL) {k : Nat} (h : Rn k r) (hk : k < 549755813888) : Good P F.rat_whole [.d (.agg (dR Ψ r))] [] (.d (.agg (dR Ψ (wh r)))) [] := by
  refine G.rat_whole fun C C2 hC hC2 => ?_
  have g := bits_good r.den (h.N2 (by omega))
  have hz : bl (nv r.den) = 0 → wh r = ⟨false, [], [1]⟩ := fun q => wh_zero (bl_eq_zero.1 q)
  have hnz : bl (nv r.den) ≠ 0 → wh r = r := fun q => wh_ne fun c => q (bl_eq_zero.2 c)
  obtain ⟨R, hR⟩ : ∃ R, R = wh r := ⟨_, rfl⟩
  rw [← hR] at hz hnz ⊢
  generalize bl (nv r.den) = n at *
  obtain ⟨b, x, y⟩ := r
  simp only at g
  refine nx ?_
  refine ⟨_, hC _ _ _ g, ?_⟩
  refine nx ?_
  refine BrG.split (fun h => ?_) (fun h => ?_)
  · have h0 : n = 0 := by have := h; simp only [wz] at this ⊢; omega
    have := hz h0
    subst this
    refine nx ?_
    refine ⟨_, hC _ _ _ one_good, ?_⟩
    refine nx ?_
    rfl
  · have h0 : n ≠ 0 := by have := h; simp only [wz] at this ⊢; omega
    have := hnz h0
    subst this
    exact nx trivial

theorem plus_good (a b : RL) {j k : Nat} (ha : Rn j a) (hb : Rn k b) (hj : 0 < j) (hk : 0 < k) (hj2 : j < 68719476736) (hk2 : k < 68719476736) :
    Good P F.rat_plus [.d (.agg (dR Ψ a)), .d (.agg (dR Ψ b))] [] (.d (.agg (dR Ψ (Ψ .cr (rv a + rv b))))) [] := by
  refine G.rat_plus fun C C2 hC hC2 => ?_
  have gw1 := whole_good a ha (by omega)
  have gw2 := whole_good b hb (by omega)
  rw [← rv_wh a, ← rv_wh b]
  have ha' := Rn_wh ha hj
  have hb' := Rn_wh hb hk
  have hda := wh_den a
  have hdb := wh_den b
  generalize wh a = p at *
  generalize wh b = q at *
  have hadd := rv_add hda hdb
  have p1 := ha'.N1 (by omega)
  have p2 := ha'.N2 (by omega)
  have q1 := hb'.N1 (by omega)
  have q2 := hb'.N2 (by omega)
  have lp1 := ha'.kn
  have lp2 := ha'.kd
  have lq1 := hb'.kn
  have lq2 := hb'.kd
  have m1 := mul_good p.num q.den p1 q2 (by omega) (by omega)
  have m2 := mul_good q.num p.den q1 p2 (by omega) (by omega)
  have m3 := mul_good p.den q.den p2 q2 (by omega) (by omega)
  have b1 : nv p.num * nv q.den < 4294967296 ^ (j + k) := lt_mul_pow (nv_lt_pow p1.lim lp1) (nv_lt_pow q2.lim lq2)
  have b2 : nv q.num * nv p.den < 4294967296 ^ (j + k) := by rw [Nat.add_comm]; exact lt_mul_pow (nv_lt_pow q1.lim lq1) (nv_lt_pow p2.lim lp2)
  have b3 : nv p.den * nv q.den < 4294967296 ^ (j + k) := lt_mul_pow (nv_lt_pow p2.lim lp2) (nv_lt_pow q2.lim lq2)
  obtain ⟨s, n1, d1⟩ := p
  obtain ⟨t, n2, d2⟩ := q
  simp only at *
  generalize nv n1 * nv d2 = x at *
  generalize nv n2 * nv d1 = y at *
  generalize nv d1 * nv d2 = z at *
  generalize rv _ + rv _ = v at *
  obtain ⟨R, hR⟩ : ∃ R, R = Ψ .cr v := ⟨_, rfl⟩
  rw [← hR]
  rw [hadd] at hR
  have hNx := N_cn b1 (by omega)
  have ny := N_cn b2 (by omega)
  have nz := N_cn b3 (by omega)
  have lx := len_cn.2 b1
  have ly := len_cn.2 b2
  have lz := len_cn.2 b3
  have gadd := add_good (Ψ .cn x) (Ψ .cn y) hNx ny (by omega) (by omega)
  rw [nv_cn, nv_cn] at gadd
  have badd : x + y < 4294967296 ^ (j + k + 1) := by rw [Nat.pow_succ]; omega
  have g1 := made_good s (Ψ .cn (x + y)) (Ψ .cn z) (N_cn badd (by omega)) nz (by have := len_cn.2 badd; omega) (by omega)
  rw [nv_cn, nv_cn] at g1
  have gsub : y ≤ x → _ := fun h => sub_good (Ψ .cn x) (Ψ .cn y) hNx ny (by rw [nv_cn, nv_cn]; exact h)
  have gsub2 : x < y → _ := fun h => sub_good_lt (Ψ .cn x) (Ψ .cn y) hNx ny (by rw [nv_cn, nv_cn]; exact h)
  have gsub3 : x ≤ y → _ := fun h => sub_good (Ψ .cn y) (Ψ .cn x) ny hNx (by rw [nv_cn, nv_cn]; exact h)
  rw [nv_cn, nv_cn] at gsub gsub3
  have bs1 : x - y < 4294967296 ^ (j + k) := by omega
  have bs2 : y - x < 4294967296 ^ (j + k) := by omega
  have g2 := made_good s (Ψ .cn (x - y)) (Ψ .cn z) (N_cn bs1 (by omega)) nz (by have := len_cn.2 bs1; omega) (by omega)
  have g3 := made_good t (Ψ .cn (y - x)) (Ψ .cn z) (N_cn bs2 (by omega)) nz (by have := len_cn.2 bs2; omega) (by omega)
  rw [nv_cn, nv_cn] at g2 g3
  have e1 : s = t → mkRat (sg s (x + y)) z = mkRat (sg s x + sg t y) z := fun h => by subst h; rw [sg_add_same]
  have e2 : s ≠ t → y ≤ x → mkRat (sg s (x - y)) z = mkRat (sg s x + sg t y) z := fun h h2 => by rw [sg_add_diff h h2]
  have e3 : s ≠ t → x ≤ y → mkRat (sg t (y - x)) z = mkRat (sg s x + sg t y) z := fun h h2 => by rw [Int.add_comm, sg_add_diff (fun c => h c.symm) h2]
  refine nx ?_
  refine ⟨_, hC _ _ _ gw1, ?_⟩
  refine nx ?_
  refine ⟨_, hC _ _ _ gw2, ?_⟩
  refine nx ?_
  refine ⟨_, hC _ _ _ m1, ?_⟩
  refine nx ?_
  refine ⟨_, hC _ _ _ m2, ?_⟩
  refine nx ?_
  refine ⟨_, hC _ _ _ m3, ?_⟩
  refine nx ?_
  refine BrG.split (fun h => ?_) (fun h => ?_)
  · have hst : s = t := by simpa using h
    rw [e1 hst, ← hR] at g1
    refine nx ?_
    refine ⟨_, hC _ _ _ gadd, ?_⟩
    refine nx ?_
    refine ⟨_, hC _ _ _ g1, ?_⟩
    exact nx trivial
  · have hst : s ≠ t := by simpa using h
    refine nx ?_
    rcases Nat.lt_or_ge x y with c | c
    · rw [e3 hst (Nat.le_of_lt c), ← hR] at g3
      refine ⟨_, hC _ _ _ (gsub2 c), ?_⟩
      refine nx ?_
      refine ⟨_, hC _ _ _ (gsub3 (Nat.le_of_lt c)), ?_⟩
      refine nx ?_
      refine ⟨_, hC _ _ _ g3, ?_⟩
      exact nx trivial
    · rw [e2 hst c, ← hR] at g2
      refine ⟨_, hC _ _ _ (gsub c), ?_⟩
      refine nx ?_
      refine ⟨_, hC _ _ _ g2, ?_⟩
      exact nx trivial
end Go.K.S
end
section
/-
  Contracts of rat: times, Sum, Product, Sub, Sign, Cmp, Same, Div.
-/
namespace Go.K.S
open Go Go.K
set_option maxHeartbeats 4000000
set_option maxRecDepth 20000
set_option linter.unusedVariables false
set_option linter.unusedSimpArgs false

theorem times_good (p q : Rat) {j k : Nat} (hp : Qn j p) (hq : Qn k q) (hj : 0 < j) (hk : 0 < k) (hj2 : j < 68719476736) (hk2 : k < 68719476736) :
    Good P F.rat_times [.d (.agg (dR Ψ (Ψ .cr p))), .d (.agg (dR Ψ (Ψ .cr q)))] [] (.d (.agg (dR Ψ (Ψ .cr (p * q))))) [] := by
  refine G.rat_times fun C C2 hC hC2 => ?_
  have rp := Rn_cr.2 hp
  have rq := Rn_cr.2 hq
  obtain ⟨R, hR⟩ : ∃ R, R = Ψ .cr (p * q) := ⟨_, rfl⟩
  rw [← hR]
  by_cases hp0 : p = 0
  · have : R = ⟨false, [], [1]⟩ := by rw [hR, hp0, Rat.zero_mul, cr_zero]
    subst this
    rw [hp0, cr_zero]
    refine nx ?_
    refine BrG.split (fun h => ?_) (fun h => by have := h; simp [wz] at this)
    refine nx ?_
    refine ⟨_, hC _ _ _ one_good, ?_⟩
    refine nx ?_
    rfl
  by_cases hq0 : q = 0
  · have : R = ⟨false, [], [1]⟩ := by rw [hR, hq0, Rat.mul_zero, cr_zero]
    subst this
    have hnp : (Ψ .cr p).num.length ≠ 0 := fun c => hp0 (cr_num_nil.1 (List.eq_nil_of_length_eq_zero c))
    rw [hq0, cr_zero]
    generalize Ψ .cr p = a at *
    obtain ⟨b, x, y⟩ := a
    refine nx ?_
    refine BrG.split (fun h => ?_) (fun h => ?_)
    · exfalso
      simp only at hnp
      have : x.length = 0 := by have := h; simp only [wz] at this ⊢; omega
      exact hnp this
    refine nx ?_
    refine BrG.split (fun h => ?_) (fun h => by have := h; simp [wz] at this)
    refine nx ?_
    refine ⟨_, hC _ _ _ one_good, ?_⟩
    refine nx ?_
    rfl
  have hnp : (Ψ .cr p).num.length ≠ 0 := fun c => hp0 (cr_num_nil.1 (List.eq_nil_of_length_eq_zero c))
  have hnq : (Ψ .cr q).num.length ≠ 0 := fun c => hq0 (cr_num_nil.1 (List.eq_nil_of_length_eq_zero c))
  have hmul := cr_mul hp0 hq0
  rw [← hR] at hmul
  have hpn : p.num.natAbs ≠ 0 := by simpa using hp0
  have hqn : q.num.natAbs ≠ 0 := by simpa using hq0
  have g1 := made_good (Ψ .cr p).neg (Ψ .cr p).num (Ψ .cr q).den (rp.N1 (by omega)) (rq.N2 (by omega)) (by have := rp.kn; omega) (by have := rq.kd; omega)
  have g2 := made_good (Ψ .cr q).neg (Ψ .cr q).num (Ψ .cr p).den (rq.N1 (by omega)) (rp.N2 (by omega)) (by have := rq.kn; omega) (by have := rp.kd; omega)
  have e1 : (Ψ .cr p).num = Ψ .cn p.num.natAbs := rfl
  have e2 : (Ψ .cr p).den = Ψ .cn p.den := rfl
  have e3 : (Ψ .cr q).num = Ψ .cn q.num.natAbs := rfl
  have e4 : (Ψ .cr q).den = Ψ .cn q.den := rfl
  rw [e1, e4, nv_cn, nv_cn, cr_mk hpn q.den_nz] at g1
  rw [e3, e2, nv_cn, nv_cn, cr_mk hqn p.den_nz] at g2
  have b1 : p.num.natAbs / p.num.natAbs.gcd q.den < 4294967296 ^ j := Nat.lt_of_le_of_lt (Nat.div_le_self _ _) hp.n
  have b2 : q.den / p.num.natAbs.gcd q.den < 4294967296 ^ k := Nat.lt_of_le_of_lt (Nat.div_le_self _ _) hq.d
  have b3 : q.num.natAbs / q.num.natAbs.gcd p.den < 4294967296 ^ k := Nat.lt_of_le_of_lt (Nat.div_le_self _ _) hq.n
  have b4 : p.den / q.num.natAbs.gcd p.den < 4294967296 ^ j := Nat.lt_of_le_of_lt (Nat.div_le_self _ _) hp.d
  have m1 := mul_good (Ψ .cn (p.num.natAbs / p.num.natAbs.gcd q.den)) (Ψ .cn (q.num.natAbs / q.num.natAbs.gcd p.den)) (N_cn b1 (by omega)) (N_cn b3 (by omega)) (by have := len_cn.2 b1; omega) (by have := len_cn.2 b3; omega)
  have m2 := mul_good (Ψ .cn (q.den / p.num.natAbs.gcd q.den)) (Ψ .cn (p.den / q.num.natAbs.gcd p.den)) (N_cn b2 (by omega)) (N_cn b4 (by omega)) (by have := len_cn.2 b2; omega) (by have := len_cn.2 b4; omega)
  rw [nv_cn, nv_cn] at m1 m2
  rw [← e1, ← e4] at g1
  rw [← e3, ← e2] at g2
  generalize p.num.natAbs / p.num.natAbs.gcd q.den = v1 at *
  generalize q.den / p.num.natAbs.gcd q.den = v2 at *
  generalize q.num.natAbs / q.num.natAbs.gcd p.den = v3 at *
  generalize p.den / q.num.natAbs.gcd p.den = v4 at *
  generalize v1 * v3 = w1 at *
  generalize v2 * v4 = w2 at *
  clear e1 e2 e3 e4 rp rq
  generalize Ψ .cr p = a at *
  generalize Ψ .cr q = b at *
  obtain ⟨s, x, y⟩ := a
  obtain ⟨s', x', y'⟩ := b
  simp only at *
  subst hmul
  refine nx ?_
  refine BrG.split (fun h => ?_) (fun h => ?_)
  · exfalso
    have : x.length = 0 := by have := h; simp only [wz] at this ⊢; omega
    exact hnp this
  refine nx ?_
  refine BrG.split (fun h => ?_) (fun h => ?_)
  · exfalso
    have : x'.length = 0 := by have := h; simp only [wz] at this ⊢; omega
    exact hnq this
  refine nx ?_
  refine ⟨_, hC _ _ _ g1, ?_⟩
  refine nx ?_
  refine ⟨_, hC _ _ _ g2, ?_⟩
  cases s <;> cases s'
  all_goals
    refine nx ?_
    refine ⟨_, hC _ _ _ m1, ?_⟩
    refine nx ?_
    refine ⟨_, hC _ _ _ m2, ?_⟩
    exact nx trivial

theorem sum_good (l : List RL) {k : Nat} (hl : ∀ r, r ∈ l → Rn k r) (hk : 0 < k) (hs : (l.length + 1) * (k + 1) < 68719476736) :
    Good P F.rat_Sum [.d (.sl (Ψ .dRs l))] [] (.d (.agg (dR Ψ (Ψ .cr (rsum l))))) [] := by
  refine G.rat_Sum fun C C2 hC hC2 => ?_
  have hln : l.length < 68719476736 := by
    have := Nat.le_mul_of_pos_right (l.length + 1) (show 0 < k + 1 by omega)
    omega
  have hq : ∀ i, i ≤ l.length → Qn (i * (k + 1) + 1) (rsum (l.take i)) := fun i => by
    induction i with
    | zero => intro _; exact Qn_zero (by omega)
    | succ i ih =>
      intro hi
      obtain ⟨r, hr⟩ : ∃ r, l[i]? = some r := ⟨_, List.getElem?_eq_getElem (by omega)⟩
      rw [take_succ_of hr, rsum_snoc]
      refine (Qn_add (ih (by omega)) (Qn_rv (hl r (List.mem_of_getElem? hr)) hk)).mono ?_
      rw [Nat.add_mul]; omega
  have hbd : ∀ i, i ≤ l.length → i * (k + 1) + 1 < 68719476736 := fun i hi => by
    have := Nat.mul_le_mul_right (k + 1) hi
    rw [Nat.add_mul] at hs
    omega
  have hst : ∀ i r, l[i]? = some r → rsum (l.take (i + 1)) = rsum (l.take i) + rv r := fun i r hr => by rw [take_succ_of hr, rsum_snoc]
  have hlast : rsum (l.take l.length) = rsum l := by rw [List.take_length]
  have hz : rsum (l.take 0) = 0 := rfl
  obtain ⟨R0, hR0⟩ : ∃ R, R = rsum l := ⟨_, rfl⟩
  rw [← hR0] at hlast ⊢
  obtain ⟨S, hS⟩ : ∃ S : Nat → Rat, S = fun i => rsum (l.take i) := ⟨_, rfl⟩
  have hSe : ∀ i, rsum (l.take i) = S i := fun i => by rw [hS]
  simp only [hSe] at hq hst hlast hz
  clear hSe hS
  refine nx ?_
  refine ⟨_, hC _ _ _ one_good, ?_⟩
  refine nx ?_
  refine LoopG.intro (σ := Nat) [2, 3, 8, 9, 10] [1050, 1051]
      (fun i => [.ptr 1050 0, .ptr 1051 0, .d (.sl (Ψ .dRs l)), .d (.i .i64 (Ω .ci l.length)), .d (.i .i64 (Ω .ci i))])
      (fun i => [.var [.d (.b false), .nil, .nil], match i with | 0 => .var [.d (.b false), .nil, .d (.sl (Ψ .lims [1]))] | i + 1 => .var ((dR Ψ (Ψ .cr (S (i + 1)))).map V.d)])
      (fun i => i ≤ l.length)
      (fun i => l.length - i) 0 [1000, 1102] (Nat.zero_le _) ⟨rfl, rfl, rfl⟩ ?_
  rintro (_ | i) hi
  · refine nx ?_
    refine BrG.split (fun h => ?_) (fun h => ?_)
    · have hlen : 0 < l.length := by have := h; simp only [wz] at this; omega
      obtain ⟨r, hr⟩ : ∃ r, l[0]? = some r := ⟨_, List.getElem?_eq_getElem hlen⟩
      have g := read_good r (hl r (List.mem_of_getElem? hr)) (by have := hbd 1 hlen; omega)
      have e : S 1 = rv r := by rw [hst 0 r hr, hz, Rat.zero_add]
      rw [← e] at g
      refine nx ?_
      refine ⟨Int.le_refl _, (idx_dRs 0 r rfl hr rfl ?_).2⟩
      refine nx ?_
      refine BrG.split (fun h => ?_) (fun h => by have := h; simp [wz] at this)
      refine nx ?_
      refine ⟨_, hC _ _ _ g, ?_⟩
      refine nx ?_
      refine ⟨1, [1050, 1051], hlen, by omega, rfl, ?_, rfl⟩
      refine Eq.trans (b := [.ptr 1050 0, .ptr 1051 0, .d (.sl (Ψ .dRs l)), .d (.i .i64 (Ω .ci l.length)), .d (.i .i64 _)]) rfl ?_
      rw [wrap_succ (by omega)]
    · have hlen : l.length = 0 := by
        have := h; simp only [wz] at this
        omega
      rw [hlen, hz] at hlast
      subst hlast
      refine nx ?_
      rw [cr_zero]
      rfl
  · have q := hq (i + 1) hi
    have hb := hbd (i + 1) hi
    refine nx ?_
    refine BrG.split (fun h => ?_) (fun h => ?_)
    · have hlen : i + 1 < l.length := by have := h; simp only [wz] at this; omega
      obtain ⟨r, hr⟩ : ∃ r, l[i + 1]? = some r := ⟨_, List.getElem?_eq_getElem hlen⟩
      have hb2 := hbd (i + 2) hlen
      have g := plus_good (Ψ .cr (S (i + 1))) r (Rn_cr.2 q) (hl r (List.mem_of_getElem? hr)) (by omega) hk hb (by rw [Nat.add_mul] at hb2; omega)
      rw [rv_cr, ← hst _ r hr] at g
      refine nx ?_
      refine idx_dRs (i + 1) r rfl hr rfl ?_
      refine nx ?_
      refine BrG.split (fun h => ?_) (fun h => ?_)
      · exfalso
        simp [wz] at h
        first | omega | (have := of_decide_eq_true h; omega)
      refine nx ?_
      refine ⟨_, hC _ _ _ g, ?_⟩
      refine nx ?_
      refine ⟨i + 1 + 1, [1050, 1051], hlen, by omega, rfl, ?_, rfl⟩
      refine Eq.trans (b := [.ptr 1050 0, .ptr 1051 0, .d (.sl (Ψ .dRs l)), .d (.i .i64 (Ω .ci l.length)), .d (.i .i64 _)]) rfl ?_
      rw [wrap_succ (by omega)]
    · have hlen : i + 1 = l.length := by have := h; simp only [wz] at this; omega
      rw [← hlen] at hlast
      subst hlast
      exact nx trivial

theorem product_good (l : List RL) {k : Nat} (hl : ∀ r, r ∈ l → Rn k r) (hk : 0 < k) (hs : (l.length + 1) * (k + 1) < 68719476736) :
    Good P F.rat_Product [.d (.sl (Ψ .dRs l))] [] (.d (.agg (dR Ψ (Ψ .cr (rprod l))))) [] := by
  refine G.rat_Product fun C C2 hC hC2 => ?_
  have hln : l.length < 68719476736 := by
    have := Nat.le_mul_of_pos_right (l.length + 1) (show 0 < k + 1 by omega)
    omega
  have hq : ∀ i, i ≤ l.length → Qn (i * (k + 1) + 1) (rprod (l.take i)) := fun i => by
    induction i with
    | zero => intro _; exact Qn_one (by omega)
    | succ i ih =>
      intro hi
      obtain ⟨r, hr⟩ : ∃ r, l[i]? = some r := ⟨_, List.getElem?_eq_getElem (by omega)⟩
      rw [take_succ_of hr, rprod_snoc]
      refine (Qn_mul (ih (by omega)) (Qn_rv (hl r (List.mem_of_getElem? hr)) hk) (by omega)).mono ?_
      rw [Nat.add_mul]; omega
  have hbd : ∀ i, i ≤ l.length → i * (k + 1) + 1 < 68719476736 := fun i hi => by
    have := Nat.mul_le_mul_right (k + 1) hi
    rw [Nat.add_mul] at hs
    omega
  have hst : ∀ i r, l[i]? = some r → rprod (l.take (i + 1)) = rprod (l.take i) * rv r := fun i r hr => by rw [take_succ_of hr, rprod_snoc]
  have hlast : rprod (l.take l.length) = rprod l := by rw [List.take_length]
  have hz : rprod (l.take 0) = 1 := rfl
  obtain ⟨R0, hR0⟩ : ∃ R, R = rprod l := ⟨_, rfl⟩
  rw [← hR0] at hlast ⊢
  obtain ⟨S, hS⟩ : ∃ S : Nat → Rat, S = fun i => rprod (l.take i) := ⟨_, rfl⟩
  have hSe : ∀ i, rprod (l.take i) = S i := fun i => by rw [hS]
  simp only [hSe] at hq hst hlast hz
  clear hSe hS
  refine nx ?_
  refine ⟨_, hC _ _ _ one_good, ?_⟩
  refine nx ?_
  refine ⟨_, hC _ _ _ one_good, ?_⟩
  refine nx ?_
  refine LoopG.intro (σ := Nat) [2, 3, 9, 10, 11] [1050, 1051]
      (fun i => [.ptr 1050 0, .ptr 1051 0, .d (.sl (Ψ .dRs l)), .d (.i .i64 (Ω .ci l.length)), .d (.i .i64 (Ω .ci i))])
      (fun i => [.var [.d (.b false), .nil, .nil], .var ((dR Ψ (Ψ .cr (S i))).map V.d)])
      (fun i => i ≤ l.length)
      (fun i => l.length - i) 0 [1000, 1103] (Nat.zero_le _) ⟨rfl, rfl, ?_⟩ ?_
  · rw [hz, cr_one]
    rfl
  intro i hi
  have q := hq i hi
  have hb := hbd i hi
  refine nx ?_
  refine BrG.split (fun h => ?_) (fun h => ?_)
  · have hlen : i < l.length := by have := h; simp only [wz] at this; omega
    obtain ⟨r, hr⟩ : ∃ r, l[i]? = some r := ⟨_, List.getElem?_eq_getElem hlen⟩
    have hb2 := hbd (i + 1) hlen
    have hrn := hl r (List.mem_of_getElem? hr)
    have g1 := read_good r hrn (by rw [Nat.add_mul] at hb2; omega)
    have g := times_good (S i) (rv r) q (Qn_rv hrn hk) (by omega) hk hb (by rw [Nat.add_mul] at hb2; omega)
    rw [← hst _ r hr] at g
    refine nx ?_
    refine idx_dRs i r rfl hr rfl ?_
    refine nx ?_
    refine ⟨_, hC _ _ _ g1, ?_⟩
    refine nx ?_
    refine ⟨_, hC _ _ _ g, ?_⟩
    refine nx ?_
    refine ⟨i + 1, [1050, 1051], hlen, by omega, rfl, ?_, rfl⟩
    refine Eq.trans (b := [.ptr 1050 0, .ptr 1051 0, .d (.sl (Ψ .dRs l)), .d (.i .i64 (Ω .ci l.length)), .d (.i .i64 _)]) rfl ?_
    rw [wrap_succ (by omega)]
  · have hlen : i = l.length := by have := h; simp only [wz] at this; omega
    rw [← hlen] at hlast
    subst hlast
    exact nx trivial

theorem rsub_good (a b : RL) {j k : Nat} (ha : Rn j a) (hb : Rn k b) (hj : 0 < j) (hk : 0 < k) (hj2 : j < 68719476736) (hk2 : k < 68719476736) :
    Good P F.rat_Sub [.d (.agg (dR Ψ a)), .d (.agg (dR Ψ b))] [] (.d (.agg (dR Ψ (Ψ .cr (rv a - rv b))))) [] := by
  refine G.rat_Sub fun C C2 hC hC2 => ?_
  have hb' : Rn k ⟨!b.neg, b.num, b.den⟩ := ⟨hb.ln, hb.ld, hb.kn, hb.kd⟩
  have g := plus_good a ⟨!b.neg, b.num, b.den⟩ ha hb' hj hk hj2 hk2
  rw [rv_neg, ← Rat.sub_eq_add_neg] at g
  obtain ⟨R, hR⟩ : ∃ R, R = Ψ .cr (rv a - rv b) := ⟨_, rfl⟩
  rw [← hR] at g ⊢
  obtain ⟨s, x, y⟩ := b
  simp only at g
  cases s
  all_goals
    refine nx ?_
    refine ⟨_, hC _ _ _ g, ?_⟩
    exact nx trivial

theorem sign_good (r : RL) {k : Nat} (h : Rn k r) (hk : k < 549755813888) : Good P F.rat_Sign [.d (.agg (dR Ψ r))] [] (.d (.i .i64 (Ψ .sI (rv r)))) [] := by
  refine G.rat_Sign fun C C2 hC hC2 => ?_
  have g1 := bits_good r.num (h.N1 (by omega))
  have g2 := bits_good r.den (h.N2 (by omega))
  have z := @rv_zero_iff r
  have hs := @sI_rv r
  rw [← bl_eq_zero (n := nv r.num), ← bl_eq_zero (n := nv r.den)] at z
  simp only [ne_eq, ← bl_eq_zero (n := nv r.num), ← bl_eq_zero (n := nv r.den)] at hs
  have h0 := @sI_zero (rv r)
  rw [z] at h0
  obtain ⟨R, hR⟩ : ∃ R, R = Ψ .sI (rv r) := ⟨_, rfl⟩
  rw [← hR] at hs h0 ⊢
  generalize bl (nv r.num) = m at *
  generalize bl (nv r.den) = n at *
  obtain ⟨s, x, y⟩ := r
  simp only at *
  refine nx ?_
  refine ⟨_, hC _ _ _ g1, ?_⟩
  refine nx ?_
  refine BrG.split (fun h => ?_) (fun h => ?_)
  · have hm : m = 0 := by have := h; simp only [wz] at this ⊢; omega
    have := h0.2 (.inl hm)
    subst this
    exact nx trivial
  · have hm : m ≠ 0 := by have := h; simp only [wz] at this ⊢; omega
    refine nx ?_
    refine ⟨_, hC _ _ _ g2, ?_⟩
    refine nx ?_
    refine BrG.split (fun h => ?_) (fun h => ?_)
    · have hm : n = 0 := by have := h; simp only [wz] at this ⊢; omega
      have := h0.2 (.inr hm)
      subst this
      exact nx trivial
    · have hn : n ≠ 0 := by have := h; simp only [wz] at this ⊢; omega
      have := hs hm hn
      subst this
      cases s
      · exact nx trivial
      · exact nx trivial

theorem rcmp_good (a b : RL) {j k : Nat} (ha : Rn j a) (hb : Rn k b) (hj2 : j < 68719476736) (hk2 : k < 68719476736) :
    Good P F.rat_Cmp [.d (.agg (dR Ψ a)), .d (.agg (dR Ψ b))] [] (.d (.i .i64 (Ψ .cI (rv a) (rv b)))) [] := by
  refine G.rat_Cmp fun C C2 hC hC2 => ?_
  have g1 := sign_good a ha (by omega)
  have g2 := sign_good b hb (by omega)
  have m1 := mul_good a.num b.den (ha.N1 (by omega)) (hb.N2 (by omega)) (by have := ha.kn; omega) (by have := hb.kd; omega)
  have m2 := mul_good b.num a.den (hb.N1 (by omega)) (ha.N2 (by omega)) (by have := hb.kn; omega) (by have := ha.kd; omega)
  have b1 : nv a.num * nv b.den < 4294967296 ^ (j + k) := lt_mul_pow (nv_lt_pow ha.ln ha.kn) (nv_lt_pow hb.ld hb.kd)
  have b2 : nv b.num * nv a.den < 4294967296 ^ (j + k) := by rw [Nat.add_comm]; exact lt_mul_pow (nv_lt_pow hb.ln hb.kn) (nv_lt_pow ha.ld ha.kd)
  have g3 := cmp_good (Ψ .cn (nv a.num * nv b.den)) (Ψ .cn (nv b.num * nv a.den)) (N_cn b1 (by omega)) (N_cn b2 (by omega))
  rw [nv_cn, nv_cn] at g3
  have e1 := @cI_sign_ne (rv a) (rv b)
  have e2 := @cI_sign_eq a b
  have l1 := sI_lt (rv a)
  have l2 := cmpI_lt (nv a.num * nv b.den) (nv b.num * nv a.den)
  generalize Ψ .cmpI (nv a.num * nv b.den) (nv b.num * nv a.den) = c at *
  generalize nv a.num * nv b.den = u at *
  generalize nv b.num * nv a.den = v at *
  generalize Ψ .sI (rv a) = s at *
  generalize Ψ .sI (rv b) = t at *
  obtain ⟨R, hR⟩ : ∃ R, R = Ψ .cI (rv a) (rv b) := ⟨_, rfl⟩
  rw [← hR] at e1 e2 ⊢
  clear hR
  obtain ⟨sa, xa, ya⟩ := a
  obtain ⟨sb, xb, yb⟩ := b
  simp only at *
  refine nx ?_
  refine ⟨_, hC _ _ _ g1, ?_⟩
  refine nx ?_
  refine ⟨_, hC _ _ _ g2, ?_⟩
  refine nx ?_
  refine BrG.split (fun h => ?_) (fun h => ?_)
  · have hne : s ≠ t := by have := h; simp only [wz] at this ⊢; omega
    have := e1 hne
    refine nx ?_
    refine BrG.split (fun h => ?_) (fun h => ?_)
    · rw [if_pos (by have := h; simp only [wz] at this; exact this)] at this
      subst this
      exact nx trivial
    · rw [if_neg (by have := h; simp only [wz] at this; omega)] at this
      subst this
      exact nx trivial
  · have he : s = t := by have := h; simp only [wz] at this ⊢; omega
    have hRc := e2 he
    refine nx ?_
    refine ⟨_, hC _ _ _ m1, ?_⟩
    refine nx ?_
    refine ⟨_, hC _ _ _ m2, ?_⟩
    refine nx ?_
    refine ⟨_, hC _ _ _ g3, ?_⟩
    refine nx ?_
    have : Ω .wrap .i64 (s * c) = s * c := by
      have h1 : s = -1 ∨ s = 0 ∨ s = 1 := by omega
      have h2 : c = -1 ∨ c = 0 ∨ c = 1 := by omega
      rcases h1 with rfl | rfl | rfl <;> rcases h2 with rfl | rfl | rfl <;> rfl
    rw [this, ← hRc]

theorem rsame_good (a b : RL) {j k : Nat} (ha : Rn j a) (hb : Rn k b) (hj2 : j < 68719476736) (hk2 : k < 68719476736) :
    Good P F.rat_Same [.d (.agg (dR Ψ a)), .d (.agg (dR Ψ b))] [] (.d (.b (decide (rv a = rv b)))) [] := by
  refine G.rat_Same fun C C2 hC hC2 => ?_
  have g := rcmp_good a b ha hb hj2 hk2
  have z : (Ψ .cI (rv a) (rv b) = 0) ↔ rv a = rv b := cI_zero
  obtain ⟨R, hR⟩ : ∃ R, R = decide (rv a = rv b) := ⟨_, rfl⟩
  rw [← hR]
  have hR2 : R = decide (Ψ .cI (rv a) (rv b) = 0) := by rw [hR]; exact decide_eq_decide.2 z.symm
  generalize Ψ .cI (rv a) (rv b) = c at *
  clear hR z
  obtain ⟨sa, xa, ya⟩ := a
  obtain ⟨sb, xb, yb⟩ := b
  refine nx ?_
  refine ⟨_, hC _ _ _ g, ?_⟩
  refine nx ?_
  refine BrG.split (fun h => ?_) (fun h => ?_)
  · have := h; simp only [wz] at this
    rw [decide_eq_true this] at hR2
    subst hR2
    exact nx trivial
  · have := h; simp only [wz] at this
    rw [decide_eq_false this] at hR2
    subst hR2
    exact nx trivial
end Go.K.S
end
section
/-
  Contracts of rat: Div, size, Of.
-/
namespace Go.K
open Go
/-- a quotient of whole numbers -/
theorem of_mk (n d : Int) : mkRat (sg (decide (n < 0) != decide (d < 0)) n.natAbs) d.natAbs = (n : Rat) / (d : Rat) := by
  rw [Rat.mkRat_eq_div]
  have key : ∀ m : Int, (m : Rat) = if m < 0 then -((m.natAbs : Nat) : Rat) else ((m.natAbs : Nat) : Rat) := fun m => by
    by_cases h : m < 0
    · rw [if_pos h]
      have : m = -((m.natAbs : Nat) : Int) := by omega
      conv => lhs; rw [this]
      push_cast
      rfl
    · rw [if_neg h]
      have : m = ((m.natAbs : Nat) : Int) := by omega
      conv => lhs; rw [this]
      push_cast
      rfl
  have c : ∀ u : Nat, (((u : Int)) : Rat) = (u : Rat) := fun u => by push_cast; rfl
  have cneg : ∀ u : Nat, ((-(u : Int) : Int) : Rat) = -(u : Rat) := fun u => by push_cast; rfl
  rw [key n, key d]
  generalize n.natAbs = u
  generalize d.natAbs = v
  have e1 : (u : Rat) / (v : Rat) = -(u : Rat) / -(v : Rat) := by
    by_cases h : (v : Rat) = 0
    · rw [h]; simp [Rat.div_def]
    · grind
  have e2 : -(u : Rat) / (v : Rat) = (u : Rat) / -(v : Rat) := by
    by_cases h : (v : Rat) = 0
    · rw [h]; simp [Rat.div_def]
    · grind
  by_cases h1 : n < 0 <;> by_cases h2 : d < 0 <;> simp only [h1, h2, decide_true, decide_false, bne_self_eq_false, if_true, if_false, sg, Bool.false_eq_true, c]
  · exact e1
  · exact cneg u ▸ rfl
  · exact (cneg u ▸ e2)
theorem Qn_of {n d : Int} (hn : n.natAbs < 18446744073709551616) (hd : d.natAbs < 18446744073709551616) : Qn 2 ((n : Rat) / (d : Rat)) := by
  rw [← of_mk]
  refine Qn_mk ?_ ?_ (by omega)
  · rw [sg_natAbs]; omega
  · omega
end Go.K
namespace Go.K.S
open Go Go.K
set_option maxHeartbeats 4000000
set_option maxRecDepth 20000
set_option linter.unusedVariables false
set_option linter.unusedSimpArgs false

theorem rdiv_good (a b : RL) {j k : Nat} (ha : Rn j a) (hb : Rn k b) (hj : 0 < j) (hk : 0 < k) (hj2 : j < 68719476736) (hk2 : k < 68719476736) :
    Good P F.rat_Div [.d (.agg (dR Ψ a)), .d (.agg (dR Ψ b))] [] (.tup [.d (.agg (dR Ψ (Ψ .cr (rv a / rv b)))), .d (.b (decide (rv b ≠ 0)))]) [] := by
  refine G.rat_Div fun C C2 hC hC2 => ?_
  have g1 := sign_good b hb (by omega)
  have g2 := read_good a ha (by omega)
  have hb' : Rn k ⟨b.neg, b.den, b.num⟩ := ⟨hb.ld, hb.ln, hb.kd, hb.kn⟩
  have g3 := read_good ⟨b.neg, b.den, b.num⟩ hb' (by omega)
  have g4 := times_good (rv a) (rv ⟨b.neg, b.den, b.num⟩) (Qn_rv ha hj) (Qn_rv hb' hk) hj hk hj2 hk2
  rw [rv_inv] at g3 g4
  rw [← Rat.div_def] at g4
  have z := @sI_zero (rv b)
  obtain ⟨R, hR⟩ : ∃ R, R = Ψ .cr (rv a / rv b) := ⟨_, rfl⟩
  obtain ⟨R2, hR2⟩ : ∃ R, R = decide (rv b ≠ 0) := ⟨_, rfl⟩
  rw [← hR, ← hR2]
  rw [← hR] at g4
  have hz : Ψ .sI (rv b) = 0 → R = ⟨false, [], [1]⟩ ∧ R2 = false := fun c => by
    have h0 := z.1 c
    rw [hR, hR2, h0, Rat.div_def, Rat.inv_zero, Rat.mul_zero, cr_zero]
    exact ⟨rfl, decide_eq_false (fun q => q rfl)⟩
  have hnz : Ψ .sI (rv b) ≠ 0 → R2 = true := fun c => by
    rw [hR2]
    exact decide_eq_true (fun q => c (z.2 q))
  clear z hR hR2
  generalize Ψ .sI (rv b) = s at *
  generalize Ψ .cr (rv a) = A at *
  generalize Ψ .cr (rv b)⁻¹ = B at *
  obtain ⟨sa, xa, ya⟩ := a
  obtain ⟨sb, xb, yb⟩ := b
  simp only at *
  refine nx ?_
  refine ⟨_, hC _ _ _ g1, ?_⟩
  refine nx ?_
  refine BrG.split (fun h => ?_) (fun h => ?_)
  · have h0 : s = 0 := by have := h; simp only [wz] at this ⊢; omega
    obtain ⟨e1, e2⟩ := hz h0
    subst e1
    subst e2
    refine nx ?_
    refine ⟨_, hC _ _ _ one_good, ?_⟩
    refine nx ?_
    rfl
  · have h0 : s ≠ 0 := by have := h; simp only [wz] at this ⊢; omega
    have e1 := hnz h0
    subst e1
    refine nx ?_
    refine ⟨_, hC _ _ _ g2, ?_⟩
    refine nx ?_
    refine ⟨_, hC _ _ _ g3, ?_⟩
    refine nx ?_
    refine ⟨_, hC _ _ _ g4, ?_⟩
    exact nx trivial

theorem size_good (n : Int) (h1 : -9223372036854775808 ≤ n) (h2 : n ≤ 9223372036854775807) : Good P F.rat_size [.d (.i .i64 n)] [] (.d (dN Ψ (Ψ .cn n.natAbs))) [] := by
  refine G.rat_size fun C C2 hC hC2 => ?_
  have g := of_good n.natAbs (by omega)
  obtain ⟨m, hm⟩ : ∃ m, m = n.natAbs := ⟨_, rfl⟩
  rw [← hm] at g ⊢
  refine nx ?_
  refine BrG.split (fun h => ?_) (fun h => ?_)
  · have h0 := of_decide_eq_true h
    have e : Ω .wrap .u64 (0 - Ω .wrap .u64 n) = Ω .ci m := by
      rw [wrapu64, wrapu64]; simp only [wz]; omega
    refine nx ?_
    rw [e]
    refine ⟨_, hC _ _ _ g, ?_⟩
    exact nx trivial
  · have h0 := of_decide_eq_false h
    have e : Ω .wrap .u64 n = Ω .ci m := by
      rw [wrapu64]; simp only [wz]; omega
    refine nx ?_
    rw [e]
    refine ⟨_, hC _ _ _ g, ?_⟩
    exact nx trivial

theorem rof_good (n d : Int) (h1 : -9223372036854775808 ≤ n) (h2 : n ≤ 9223372036854775807) (h3 : -9223372036854775808 ≤ d) (h4 : d ≤ 9223372036854775807) :
    Good P F.rat_Of [.d (.i .i64 n), .d (.i .i64 d)] [] (.d (.agg (dR Ψ (Ψ .cr ((n : Rat) / (d : Rat)))))) [] := by
  refine G.rat_Of fun C C2 hC hC2 => ?_
  have g1 := size_good n h1 h2
  have g2 := size_good d h3 h4
  have b1 : n.natAbs < 4294967296 ^ 2 := by omega
  have b2 : d.natAbs < 4294967296 ^ 2 := by omega
  have g3 := made_good (decide (n < 0) != decide (d < 0)) (Ψ .cn n.natAbs) (Ψ .cn d.natAbs) (N_cn b1 (by omega)) (N_cn b2 (by omega)) (by have := len_cn.2 b1; omega) (by have := len_cn.2 b2; omega)
  rw [nv_cn, nv_cn, of_mk] at g3
  obtain ⟨R, hR⟩ : ∃ R, R = Ψ .cr ((n : Rat) / (d : Rat)) := ⟨_, rfl⟩
  rw [← hR] at g3 ⊢
  clear hR
  generalize n.natAbs = u at *
  generalize d.natAbs = v at *
  refine nx ?_
  refine BrG.split (fun h => ?_) (fun h => ?_)
  all_goals
    rw [show decide (n < 0) = _ from h] at g3
    refine nx ?_
    refine BrG.split (fun h => ?_) (fun h => ?_)
    all_goals
      rw [show decide (d < 0) = _ from h] at g3
      refine nx ?_
      refine ⟨_, hC _ _ _ g1, ?_⟩
      refine nx ?_
      refine ⟨_, hC _ _ _ g2, ?_⟩
      refine nx ?_
      refine ⟨_, hC _ _ _ g3, ?_⟩
      exact nx trivial
end Go.K.S
end
section
/-
  K, points and boxes: raw ones, what they say, canonical ones: plain Lean.
-/
namespace Go.K
open Go
set_option linter.unusedSimpArgs false
/-- sums and products of two and three -/
theorem rsum2 (a b : RL) : rsum [a, b] = rv a + rv b := by simp [rsum, Rat.zero_add]
theorem rsum3 (a b c : RL) : rsum [a, b, c] = rv a + rv b + rv c := by simp [rsum, Rat.zero_add]
theorem rprod2 (a b : RL) : rprod [a, b] = rv a * rv b := by simp [rprod, Rat.one_mul]
theorem mem2 {α : Type} {a b x : α} (h : x ∈ [a, b]) : x = a ∨ x = b := by simpa [wz] using h
theorem mem3 {α : Type} {a b c x : α} (h : x ∈ [a, b, c]) : x = a ∨ x = b ∨ x = c := by simpa [wz] using h

def vv (v : VL) : V3 := ⟨rv v.x, rv v.y, rv v.z⟩
theorem vv_cV (p : V3) : vv (Ψ .cV p) = p := by simp [vv, p_cV, rv_cr]
structure Vn (k : Nat) (v : VL) : Prop where
  x : Rn k v.x
  y : Rn k v.y
  z : Rn k v.z
structure Pn (k : Nat) (p : V3) : Prop where
  x : Qn k p.x
  y : Qn k p.y
  z : Qn k p.z
theorem Vn_cV {k : Nat} {p : V3} (h : Pn k p) : Vn k (Ψ .cV p) := ⟨Rn_cr.2 h.x, Rn_cr.2 h.y, Rn_cr.2 h.z⟩
theorem Pn_vv {k : Nat} {v : VL} (h : Vn k v) (hk : 0 < k) : Pn k (vv v) := ⟨Qn_rv h.x hk, Qn_rv h.y hk, Qn_rv h.z hk⟩
theorem Vn.mono {j k : Nat} {v : VL} (h : Vn j v) (hjk : j ≤ k) : Vn k v := ⟨h.x.mono hjk, h.y.mono hjk, h.z.mono hjk⟩
theorem Pn.mono {j k : Nat} {v : V3} (h : Pn j v) (hjk : j ≤ k) : Pn k v := ⟨h.x.mono hjk, h.y.mono hjk, h.z.mono hjk⟩

def v0 : V3 := ⟨0, 0, 0⟩
def vadd (p q : V3) : V3 := ⟨p.x + q.x, p.y + q.y, p.z + q.z⟩
def vsub (p q : V3) : V3 := ⟨p.x - q.x, p.y - q.y, p.z - q.z⟩
def vmul (s : Rat) (q : V3) : V3 := ⟨s * q.x, s * q.y, s * q.z⟩
def vdot (p q : V3) : Rat := p.x * q.x + p.y * q.y + p.z * q.z
def vcross (p q : V3) : V3 := ⟨p.y * q.z - p.z * q.y, p.z * q.x - p.x * q.z, p.x * q.y - p.y * q.x⟩
theorem Pn_v0 {k : Nat} (hk : 0 < k) : Pn k v0 := ⟨Qn_zero hk, Qn_zero hk, Qn_zero hk⟩
theorem Pn_add {j k : Nat} {p q : V3} (hp : Pn j p) (hq : Pn k q) : Pn (j + k + 1) (vadd p q) := ⟨Qn_add hp.x hq.x, Qn_add hp.y hq.y, Qn_add hp.z hq.z⟩
theorem Pn_sub {j k : Nat} {p q : V3} (hp : Pn j p) (hq : Pn k q) : Pn (j + k + 1) (vsub p q) := ⟨Qn_sub hp.x hq.x, Qn_sub hp.y hq.y, Qn_sub hp.z hq.z⟩
theorem Pn_mul {j k : Nat} {s : Rat} {q : V3} (hp : Qn j s) (hq : Pn k q) (h : 0 < j + k) : Pn (j + k) (vmul s q) := ⟨Qn_mul hp hq.x h, Qn_mul hp hq.y h, Qn_mul hp hq.z h⟩
theorem Qn_dot {j k : Nat} {p q : V3} (hp : Pn j p) (hq : Pn k q) (h : 0 < j + k) : Qn (3 * (j + k) + 2) (vdot p q) := by
  have := Qn_add (Qn_add (Qn_mul hp.x hq.x h) (Qn_mul hp.y hq.y h)) (Qn_mul hp.z hq.z h)
  exact this.mono (by omega)
theorem Pn_cross {j k : Nat} {p q : V3} (hp : Pn j p) (hq : Pn k q) (h : 0 < j + k) : Pn (2 * (j + k) + 1) (vcross p q) :=
  ⟨(Qn_sub (Qn_mul hp.y hq.z h) (Qn_mul hp.z hq.y h)).mono (by omega), (Qn_sub (Qn_mul hp.z hq.x h) (Qn_mul hp.x hq.z h)).mono (by omega), (Qn_sub (Qn_mul hp.x hq.y h) (Qn_mul hp.y hq.x h)).mono (by omega)⟩

theorem sget_dVs (l : List VL) (k : Nat) : Ω .sget (Ψ .dVs l) k = (l[k]?).map fun r => (D.agg (dV Ψ r) : D) := by simp [w_sget, p_dVs]
theorem idx_dVs {l : List VL} {k : Int} {sz : Nat} {R : D → Prop} (kn : Nat) (r : VL) (hk : k = Ω .ci kn) (hv : l[kn]? = some r) (hsz : 9 = sz) (h : R (.agg (dV Ψ r))) :
    Ω .ile 0 k ∧ ∃ x, Ω .sget (Ψ .dVs l) (Ω .tn k) = some x ∧ x.cells.length = sz ∧ R x := by
  subst hk
  refine ⟨ci_nonneg _, .agg (dV Ψ r), ?_, hsz, h⟩
  rw [tn_ci, sget_dVs, hv]; rfl
def vsum (l : List VL) : V3 := (l.map vv).foldl vadd v0
theorem vsum_snoc (l : List VL) (r : VL) : vsum (l ++ [r]) = vadd (vsum l) (vv r) := by simp [vsum]
theorem vsum2 (a b : VL) : vsum [a, b] = vadd (vv a) (vv b) := by simp [vsum, vadd, v0, Rat.zero_add]
end Go.K
namespace Go.K
open Go
theorem VL.ext_iff' {a b : VL} : a = b ↔ a.x = b.x ∧ a.y = b.y ∧ a.z = b.z := by
  cases a; cases b; simp
theorem RL.ext_iff'' {a b : RL} : a = b ↔ a.neg = b.neg ∧ a.num = b.num ∧ a.den = b.den := by
  cases a; cases b; simp
instance : DecidableEq RL := fun _ _ => decidable_of_iff _ RL.ext_iff''.symm
instance : DecidableEq VL := fun _ _ => decidable_of_iff _ VL.ext_iff'.symm
theorem cr_eq_iff {p q : Rat} : Ψ .cr p = Ψ .cr q ↔ p = q := ⟨cr_inj, fun h => by rw [h]⟩
theorem V3.ext_iff' {a b : V3} : a = b ↔ a.x = b.x ∧ a.y = b.y ∧ a.z = b.z := by
  cases a; cases b; simp
theorem cV_eq_iff {p q : V3} : Ψ .cV p = Ψ .cV q ↔ p = q := by
  rw [VL.ext_iff', V3.ext_iff']
  simp [p_cV, cr_eq_iff]
instance : DecidableEq V3 := fun _ _ => decidable_of_iff _ V3.ext_iff'.symm
theorem ML.ext_iff' {a b : ML} : a = b ↔ a.s = b.s ∧ a.u = b.u ∧ a.v = b.v := by
  cases a; cases b; simp
instance : DecidableEq ML := fun _ _ => decidable_of_iff _ ML.ext_iff'.symm
theorem M3.ext_iff' {a b : M3} : a = b ↔ a.s = b.s ∧ a.u = b.u ∧ a.v = b.v := by
  cases a; cases b; simp
theorem cM_eq_iff {p q : M3} : Ψ .cM p = Ψ .cM q ↔ p = q := by
  rw [ML.ext_iff', M3.ext_iff']
  simp [p_cM, cr_eq_iff]
structure Mn (k : Nat) (v : ML) : Prop where
  s : Rn k v.s
  u : Rn k v.u
  v : Rn k v.v
end Go.K
end
section
/-
  K, boxes and spans: raw ones, what they say, canonical ones: plain Lean.
-/
namespace Go.K
open Go
set_option linter.unusedSimpArgs false
def bv (b : BL) : B3 := ⟨vv b.lo, vv b.hi⟩
theorem bv_cB (p : B3) : bv (Ψ .cB p) = p := by simp [bv, p_cB, vv_cV]
structure Bn (k : Nat) (b : BL) : Prop where
  lo : Vn k b.lo
  hi : Vn k b.hi
structure Bq (k : Nat) (p : B3) : Prop where
  lo : Pn k p.lo
  hi : Pn k p.hi
theorem Bn_cB {k : Nat} {p : B3} (h : Bq k p) : Bn k (Ψ .cB p) := ⟨Vn_cV h.lo, Vn_cV h.hi⟩
theorem Bq_bv {k : Nat} {b : BL} (h : Bn k b) (hk : 0 < k) : Bq k (bv b) := ⟨Pn_vv h.lo hk, Pn_vv h.hi hk⟩
theorem BL.ext_iff' {a b : BL} : a = b ↔ a.lo = b.lo ∧ a.hi = b.hi := by
  cases a; cases b; simp
instance : DecidableEq BL := fun _ _ => decidable_of_iff _ BL.ext_iff'.symm
theorem B3.ext_iff' {a b : B3} : a = b ↔ a.lo = b.lo ∧ a.hi = b.hi := by
  cases a; cases b; simp
theorem cB_eq_iff {p q : B3} : Ψ .cB p = Ψ .cB q ↔ p = q := by
  rw [BL.ext_iff', B3.ext_iff']
  simp [p_cB, cV_eq_iff]
instance : DecidableEq B3 := fun _ _ => decidable_of_iff _ B3.ext_iff'.symm

def rmin (p q : Rat) : Rat := if p ≤ q then p else q
def rmax (p q : Rat) : Rat := if q ≤ p then p else q
theorem Qn_min {k : Nat} {p q : Rat} (hp : Qn k p) (hq : Qn k q) : Qn k (rmin p q) := by unfold rmin; split <;> assumption
theorem Qn_max {k : Nat} {p q : Rat} (hp : Qn k p) (hq : Qn k q) : Qn k (rmax p q) := by unfold rmax; split <;> assumption
def vmin (p q : V3) : V3 := ⟨rmin p.x q.x, rmin p.y q.y, rmin p.z q.z⟩
def vmax (p q : V3) : V3 := ⟨rmax p.x q.x, rmax p.y q.y, rmax p.z q.z⟩
def bjoin (a b : B3) : B3 := ⟨vmin a.lo b.lo, vmax a.hi b.hi⟩
def b0 : B3 := ⟨v0, v0⟩
theorem rmin_self (p : Rat) : rmin p p = p := by simp [rmin]
theorem rmax_self (p : Rat) : rmax p p = p := by simp [rmax]
theorem bjoin_self (b : B3) : bjoin b b = b := by simp [bjoin, vmin, vmax, rmin_self, rmax_self]
theorem Pn_min {k : Nat} {p q : V3} (hp : Pn k p) (hq : Pn k q) : Pn k (vmin p q) := ⟨Qn_min hp.x hq.x, Qn_min hp.y hq.y, Qn_min hp.z hq.z⟩
theorem Pn_max {k : Nat} {p q : V3} (hp : Pn k p) (hq : Pn k q) : Pn k (vmax p q) := ⟨Qn_max hp.x hq.x, Qn_max hp.y hq.y, Qn_max hp.z hq.z⟩
theorem Bq_join {k : Nat} {p q : B3} (hp : Bq k p) (hq : Bq k q) : Bq k (bjoin p q) := ⟨Pn_min hp.lo hq.lo, Pn_max hp.hi hq.hi⟩
theorem Bq_b0 {k : Nat} (hk : 0 < k) : Bq k b0 := ⟨Pn_v0 hk, Pn_v0 hk⟩
/-- the box around boxes -/
def bjoins : List BL → B3
  | [] => b0
  | b :: r => (r.map bv).foldl bjoin (bv b)
theorem bjoins_one (b : BL) : bjoins [b] = bv b := rfl
theorem bjoins_snoc (l : List BL) (b : BL) (h : l ≠ []) : bjoins (l ++ [b]) = bjoin (bjoins l) (bv b) := by
  cases l with
  | nil => exact absurd rfl h
  | cons a l => simp [bjoins]
theorem Bq_joins {k : Nat} (hk : 0 < k) : ∀ (l : List BL), (∀ b, b ∈ l → Bn k b) → Bq k (bjoins l)
  | [], _ => Bq_b0 hk
  | b :: r, h => by
    have key : ∀ (r : List BL) (s : B3), Bq k s → (∀ b, b ∈ r → Bn k b) → Bq k ((r.map bv).foldl bjoin s) := fun r => by
      induction r with
      | nil => intro s hs _; exact hs
      | cons c r ih => intro s hs hr; exact ih _ (Bq_join hs (Bq_bv (hr c (by simp)) hk)) (fun b hb => hr b (by simp [hb]))
    exact key r _ (Bq_bv (h b (by simp)) hk) (fun c hc => h c (by simp [hc]))
theorem sget_dBs (l : List BL) (k : Nat) : Ω .sget (Ψ .dBs l) k = (l[k]?).map fun r => (D.agg (dB Ψ r) : D) := by simp [w_sget, p_dBs]
theorem scat_dBs (l m : List BL) : Ω .scat (Ψ .dBs l) (Ψ .dBs m) = Ψ .dBs (l ++ m) := by simp [w_scat, p_dBs]
theorem dBs_one (b : BL) : [D.agg (dB Ψ b)] = Ψ .dBs [b] := rfl
theorem idx_dBs {l : List BL} {k : Int} {sz : Nat} {R : D → Prop} (kn : Nat) (r : BL) (hk : k = Ω .ci kn) (hv : l[kn]? = some r) (hsz : 18 = sz) (h : R (.agg (dB Ψ r))) :
    Ω .ile 0 k ∧ ∃ x, Ω .sget (Ψ .dBs l) (Ω .tn k) = some x ∧ x.cells.length = sz ∧ R x := by
  subst hk
  refine ⟨ci_nonneg _, .agg (dB Ψ r), ?_, hsz, h⟩
  rw [tn_ci, sget_dBs, hv]; rfl
/-- a point, as a box -/
def pbox (v : VL) : BL := ⟨v, v⟩

/-- spans -/
structure S3 where
  from' : Rat
  to' : Rat
  op : Bool
structure SL where
  from' : RL
  to' : RL
  op : Bool
def cS (Ψ : (t : Sd) → STy t) (s : S3) : SL := ⟨Ψ .cr s.from', Ψ .cr s.to', s.op⟩
def dS (Ψ : (t : Sd) → STy t) (s : SL) : List D := [.b s.from'.neg, dN Ψ s.from'.num, dN Ψ s.from'.den, .b s.to'.neg, dN Ψ s.to'.num, dN Ψ s.to'.den, .b s.op]
theorem SL.ext_iff' {a b : SL} : a = b ↔ a.from' = b.from' ∧ a.to' = b.to' ∧ a.op = b.op := by
  cases a; cases b; simp
instance : DecidableEq SL := fun _ _ => decidable_of_iff _ SL.ext_iff'.symm
theorem S3.ext_iff' {a b : S3} : a = b ↔ a.from' = b.from' ∧ a.to' = b.to' ∧ a.op = b.op := by
  cases a; cases b; simp
instance : DecidableEq S3 := fun _ _ => decidable_of_iff _ S3.ext_iff'.symm
theorem cS_eq_iff {p q : S3} : cS Ψ p = cS Ψ q ↔ p = q := by
  rw [SL.ext_iff', S3.ext_iff']
  simp [cS, cr_eq_iff]

/-- does a number lie between two others? -/
def btw (x lo hi : Rat) : Prop := lo ≤ x ∧ x ≤ hi
instance (x lo hi : Rat) : Decidable (btw x lo hi) := by unfold btw; infer_instance
/-- does a box hold a point? -/
def holds (b : B3) (p : V3) : Prop := btw p.x b.lo.x b.hi.x ∧ btw p.y b.lo.y b.hi.y ∧ btw p.z b.lo.z b.hi.z
instance (b : B3) (p : V3) : Decidable (holds b p) := by unfold holds; infer_instance
end Go.K
namespace Go.K
open Go
/-! ### which part of a ray lies within a box, as the program reckons -/
def nearR (o d lo hi : Rat) : Rat := if d < 0 then (hi - o) / d else (lo - o) / d
def farR (o d lo hi : Rat) : Rat := if d < 0 then (lo - o) / d else (hi - o) / d
def clip1 (o d lo hi : Rat) (s : S3) : Option S3 :=
  if d = 0 then if o < lo ∨ hi < o then none else some s
  else some ⟨rmax s.from' (nearR o d lo hi), rmin (if s.op then farR o d lo hi else s.to') (farR o d lo hi), false⟩
def axV (v : V3) : Nat → Rat
  | 0 => v.x
  | 1 => v.y
  | _ => v.z
def clipN (o d : V3) (b : B3) : Nat → Option S3
  | 0 => some ⟨0, 0, true⟩
  | i + 1 => (clipN o d b i).bind (clip1 (axV o i) (axV d i) (axV b.lo i) (axV b.hi i))
def clipP (o d : V3) (b : B3) : Option S3 := (clipN o d b 3).bind fun s => if s.op = false ∧ s.to' < s.from' then none else some s
def clipS (o d : V3) (b : B3) : S3 := (clipP o d b).getD ⟨0, 0, false⟩
def clipOk (o d : V3) (b : B3) : Bool := (clipP o d b).isSome
structure Sn (k : Nat) (s : S3) : Prop where
  f : Qn k s.from'
  t : Qn k s.to'
theorem clip_none {o d : V3} {b : B3} {i : Nat} {s : S3} (h : clipN o d b i = some s) (hi : i < 3) (hn : clip1 (axV o i) (axV d i) (axV b.lo i) (axV b.hi i) s = none) : clipS o d b = ⟨0, 0, false⟩ ∧ clipOk o d b = false := by
  have h1 : clipN o d b (i + 1) = none := by rw [clipN, h]; exact hn
  have h3 : ∀ j, clipN o d b j = none → clipN o d b (j + 1) = none := fun j hj => by rw [clipN, hj]; rfl
  have h4 : clipN o d b 3 = none := by
    have : i = 0 ∨ i = 1 ∨ i = 2 := by omega
    rcases this with rfl | rfl | rfl
    · exact h3 _ (h3 _ h1)
    · exact h3 _ h1
    · exact h1
  simp [clipS, clipOk, clipP, h4]
theorem clip_last {o d : V3} {b : B3} {s : S3} (h : clipN o d b 3 = some s) :
    (s.op = false → s.to' < s.from' → clipS o d b = ⟨0, 0, false⟩ ∧ clipOk o d b = false) ∧ (¬ (s.op = false ∧ s.to' < s.from') → clipS o d b = s ∧ clipOk o d b = true) := by
  constructor
  · intro h1 h2
    simp [clipS, clipOk, clipP, h, h1, h2]
  · intro h1
    simp only [clipS, clipOk, clipP, h, Option.bind_some, if_neg h1]
    exact ⟨rfl, rfl⟩
end Go.K
end
section
/-
  Contracts of boxes: least, most, axes, Join, Around, Holds.
-/
namespace Go.K.S
open Go Go.K
set_option maxHeartbeats 8000000
set_option maxRecDepth 20000
set_option linter.unusedVariables false
set_option linter.unusedSimpArgs false

theorem least_good (a b : RL) {k : Nat} (ha : Rn k a) (hb : Rn k b) (hk2 : k < 68719476736) :
    Good P F.boxes_least [.d (.agg (dR Ψ a)), .d (.agg (dR Ψ b))] [] (.d (.agg (dR Ψ (Ψ .cr (rmin (rv a) (rv b)))))) [] := by
  refine G.boxes_least fun C C2 hC hC2 => ?_
  have g := rcmp_good a b ha hb hk2 hk2
  have g1 := read_good a ha (by omega)
  have g2 := read_good b hb (by omega)
  have z := @cI_nonpos (rv a) (rv b)
  obtain ⟨R, hR⟩ : ∃ R, R = Ψ .cr (rmin (rv a) (rv b)) := ⟨_, rfl⟩
  rw [← hR]
  by_cases c : rv a ≤ rv b
  · have e : R = Ψ .cr (rv a) := by rw [hR, rmin, if_pos c]
    have := z.2 c
    rw [← e] at g1
    clear e hR z
    generalize Ψ .cI (rv a) (rv b) = i at *
    refine nx ?_
    refine ⟨_, hC _ _ _ g, ?_⟩
    refine nx ?_
    first | rw [le_true.2 this] | rw [lt_true.2 this] | rw [eq_true'.2 this] | rw [ne_true'.2 this]
    refine nx ?_
    refine ⟨_, hC _ _ _ g1, ?_⟩
    exact nx trivial
  · have e : R = Ψ .cr (rv b) := by rw [hR, rmin, if_neg c]
    have := mt z.1 c
    rw [← e] at g2
    clear e hR z
    generalize Ψ .cI (rv a) (rv b) = i at *
    refine nx ?_
    refine ⟨_, hC _ _ _ g, ?_⟩
    refine nx ?_
    first | rw [le_false.2 (by omega)] | rw [lt_false.2 (by omega)] | rw [eq_false'.2 this] | rw [ne_false'.2 (by omega)]
    refine nx ?_
    refine ⟨_, hC _ _ _ g2, ?_⟩
    exact nx trivial

theorem most_good (a b : RL) {k : Nat} (ha : Rn k a) (hb : Rn k b) (hk2 : k < 68719476736) :
    Good P F.boxes_most [.d (.agg (dR Ψ a)), .d (.agg (dR Ψ b))] [] (.d (.agg (dR Ψ (Ψ .cr (rmax (rv a) (rv b)))))) [] := by
  refine G.boxes_most fun C C2 hC hC2 => ?_
  have g := rcmp_good a b ha hb hk2 hk2
  have g1 := read_good a ha (by omega)
  have g2 := read_good b hb (by omega)
  have z := @cI_nonneg (rv a) (rv b)
  obtain ⟨R, hR⟩ : ∃ R, R = Ψ .cr (rmax (rv a) (rv b)) := ⟨_, rfl⟩
  rw [← hR]
  by_cases c : rv b ≤ rv a
  · have e : R = Ψ .cr (rv a) := by rw [hR, rmax, if_pos c]
    have := z.2 c
    rw [← e] at g1
    clear e hR z
    generalize Ψ .cI (rv a) (rv b) = i at *
    refine nx ?_
    refine ⟨_, hC _ _ _ g, ?_⟩
    refine nx ?_
    first | rw [le_true.2 this] | rw [lt_true.2 this] | rw [eq_true'.2 this] | rw [ne_true'.2 this]
    refine nx ?_
    refine ⟨_, hC _ _ _ g1, ?_⟩
    exact nx trivial
  · have e : R = Ψ .cr (rv b) := by rw [hR, rmax, if_neg c]
    have := mt z.1 c
    rw [← e] at g2
    clear e hR z
    generalize Ψ .cI (rv a) (rv b) = i at *
    refine nx ?_
    refine ⟨_, hC _ _ _ g, ?_⟩
    refine nx ?_
    first | rw [le_false.2 (by omega)] | rw [lt_false.2 (by omega)] | rw [eq_false'.2 this] | rw [ne_false'.2 (by omega)]
    refine nx ?_
    refine ⟨_, hC _ _ _ g2, ?_⟩
    exact nx trivial

theorem axes_good (v : VL) : Good P F.boxes_axes [.d (.agg (dV Ψ v))] [] (.d (.agg (dV Ψ v))) [] := by
  refine G.boxes_axes fun C C2 hC hC2 => ?_
  exact nx trivial

theorem zero_good : Good P F.rat_Of [.d (.i .i64 0), .d (.i .i64 1)] [] (.d (.agg (dR Ψ (Ψ .cr 0)))) [] := by
  have g := rof_good 0 1 (by omega) (by omega) (by omega) (by omega)
  have e : ((0 : Int) : Rat) / ((1 : Int) : Rat) = 0 := by
    have : ((1 : Int) : Rat) = 1 := rfl
    have h2 : ((0 : Int) : Rat) = 0 := rfl
    rw [this, h2]; grind
  rw [e] at g
  exact g

theorem holds_good (b : BL) (p : VL) {k : Nat} (hb : Bn k b) (hp : Vn k p) (hk2 : k < 68719476736) :
    Good P F.boxes_Holds [.d (.agg (dB Ψ b)), .d (.agg (dV Ψ p))] [] (.d (.b (decide (holds (bv b) (vv p))))) [] := by
  refine G.boxes_Holds fun C C2 hC hC2 => ?_
  have ga1 := axes_good b.lo
  have ga2 := axes_good b.hi
  have ga3 := axes_good p
  have c1 := rcmp_good p.x b.lo.x hp.x hb.lo.x hk2 hk2
  have c2 := rcmp_good p.x b.hi.x hp.x hb.hi.x hk2 hk2
  have c3 := rcmp_good p.y b.lo.y hp.y hb.lo.y hk2 hk2
  have c4 := rcmp_good p.y b.hi.y hp.y hb.hi.y hk2 hk2
  have c5 := rcmp_good p.z b.lo.z hp.z hb.lo.z hk2 hk2
  have c6 := rcmp_good p.z b.hi.z hp.z hb.hi.z hk2 hk2
  have z1 := @cI_nonneg (rv p.x) (rv b.lo.x)
  have z2 := @cI_nonpos (rv p.x) (rv b.hi.x)
  have z3 := @cI_nonneg (rv p.y) (rv b.lo.y)
  have z4 := @cI_nonpos (rv p.y) (rv b.hi.y)
  have z5 := @cI_nonneg (rv p.z) (rv b.lo.z)
  have z6 := @cI_nonpos (rv p.z) (rv b.hi.z)
  obtain ⟨R, hR⟩ : ∃ R, R = decide (holds (bv b) (vv p)) := ⟨_, rfl⟩
  rw [← hR]
  have hR2 : R = decide ((0 ≤ Ψ .cI (rv p.x) (rv b.lo.x) ∧ Ψ .cI (rv p.x) (rv b.hi.x) ≤ 0) ∧ (0 ≤ Ψ .cI (rv p.y) (rv b.lo.y) ∧ Ψ .cI (rv p.y) (rv b.hi.y) ≤ 0) ∧ (0 ≤ Ψ .cI (rv p.z) (rv b.lo.z) ∧ Ψ .cI (rv p.z) (rv b.hi.z) ≤ 0)) := by
    rw [hR]
    refine decide_eq_decide.2 ?_
    rw [z1, z2, z3, z4, z5, z6]
    exact Iff.rfl
  clear hR z1 z2 z3 z4 z5 z6
  generalize Ψ .cI (rv p.x) (rv b.lo.x) = i1 at *
  generalize Ψ .cI (rv p.x) (rv b.hi.x) = i2 at *
  generalize Ψ .cI (rv p.y) (rv b.lo.y) = i3 at *
  generalize Ψ .cI (rv p.y) (rv b.hi.y) = i4 at *
  generalize Ψ .cI (rv p.z) (rv b.lo.z) = i5 at *
  generalize Ψ .cI (rv p.z) (rv b.hi.z) = i6 at *
  refine nx ?_
  refine ⟨_, hC _ _ _ ga1, ?_⟩
  refine nx ?_
  refine ⟨_, hC _ _ _ ga2, ?_⟩
  refine nx ?_
  refine ⟨_, hC _ _ _ ga3, ?_⟩
  refine nx ?_
  refine LoopG.intro (σ := Nat) [4, 5, 6, 16, 17] [1050, 1051]
      (fun i => [.d (.b false), .ptr 1050 0, .ptr 1051 0, .d (.agg (dV Ψ p)), .d (.i .i64 (il i))])
      (fun i => [.var ((dV Ψ b.lo).map V.d), .var ((dV Ψ b.hi).map V.d)])
      (fun i => i ≤ 3 ∧ (0 < i → 0 ≤ i1 ∧ i2 ≤ 0) ∧ (1 < i → 0 ≤ i3 ∧ i4 ≤ 0) ∧ (2 < i → 0 ≤ i5 ∧ i6 ≤ 0))
      (fun i => 3 - i) 0 [1106, 1107] ⟨by omega, by omega, by omega, by omega⟩ ⟨rfl, rfl, rfl⟩ ?_
  rintro (_ | _ | _ | _ | i) ⟨hi, h1, h2, h3⟩
  · refine nx ?_
    refine BrG.yes rfl ?_
    refine nx ?_
    refine ⟨_, hC _ _ _ c1, ?_⟩
    refine nx ?_
    refine BrG.split (fun h => ?_) (fun h => ?_)
    · have hlt := of_decide_eq_true h
      have : R = false := by rw [hR2]; exact decide_eq_false (fun q => by omega)
      subst this
      exact nx trivial
    · have hge := of_decide_eq_false h
      refine nx ?_
      refine ⟨_, hC _ _ _ c2, ?_⟩
      refine nx ?_
      refine BrG.split (fun h => ?_) (fun h => ?_)
      · have hlt := of_decide_eq_true h
        have : R = false := by rw [hR2]; exact decide_eq_false (fun q => by omega)
        subst this
        exact nx trivial
      · have hle := of_decide_eq_false h
        refine nx ?_
        refine ⟨1, [1050, 1051], ⟨by omega, fun _ => ⟨by omega, by omega⟩, fun _ => ⟨by omega, by omega⟩, fun _ => ⟨by omega, by omega⟩⟩, by omega, rfl, rfl, rfl⟩
  · refine nx ?_
    refine BrG.yes rfl ?_
    refine nx ?_
    refine ⟨_, hC _ _ _ c3, ?_⟩
    refine nx ?_
    refine BrG.split (fun h => ?_) (fun h => ?_)
    · have hlt := of_decide_eq_true h
      have : R = false := by rw [hR2]; exact decide_eq_false (fun q => by omega)
      subst this
      exact nx trivial
    · have hge := of_decide_eq_false h
      refine nx ?_
      refine ⟨_, hC _ _ _ c4, ?_⟩
      refine nx ?_
      refine BrG.split (fun h => ?_) (fun h => ?_)
      · have hlt := of_decide_eq_true h
        have : R = false := by rw [hR2]; exact decide_eq_false (fun q => by omega)
        subst this
        exact nx trivial
      · have hle := of_decide_eq_false h
        refine nx ?_
        refine ⟨2, [1050, 1051], ⟨by omega, fun _ => ⟨by omega, by omega⟩, fun _ => ⟨by omega, by omega⟩, fun _ => ⟨by omega, by omega⟩⟩, by omega, rfl, rfl, rfl⟩
  · refine nx ?_
    refine BrG.yes rfl ?_
    refine nx ?_
    refine ⟨_, hC _ _ _ c5, ?_⟩
    refine nx ?_
    refine BrG.split (fun h => ?_) (fun h => ?_)
    · have hlt := of_decide_eq_true h
      have : R = false := by rw [hR2]; exact decide_eq_false (fun q => by omega)
      subst this
      exact nx trivial
    · have hge := of_decide_eq_false h
      refine nx ?_
      refine ⟨_, hC _ _ _ c6, ?_⟩
      refine nx ?_
      refine BrG.split (fun h => ?_) (fun h => ?_)
      · have hlt := of_decide_eq_true h
        have : R = false := by rw [hR2]; exact decide_eq_false (fun q => by omega)
        subst this
        exact nx trivial
      · have hle := of_decide_eq_false h
        refine nx ?_
        refine ⟨3, [1050, 1051], ⟨by omega, fun _ => ⟨by omega, by omega⟩, fun _ => ⟨by omega, by omega⟩, fun _ => ⟨by omega, by omega⟩⟩, by omega, rfl, rfl, rfl⟩
  · have : R = true := by rw [hR2]; exact decide_eq_true (by omega)
    subst this
    refine nx ?_
    refine BrG.no rfl ?_
    exact nx trivial
  · omega
end Go.K.S
end
section
/-
  Contracts of boxes: Join, Around.
-/
namespace Go.K.S
open Go Go.K
set_option maxHeartbeats 8000000
set_option maxRecDepth 20000
set_option linter.unusedVariables false
set_option linter.unusedSimpArgs false

theorem join_good (l : List BL) {k : Nat} (hl : ∀ b, b ∈ l → Bn k b) (hln : l.length < 68719476736) (hk : 0 < k) (hk2 : k < 68719476736) :
    Good P F.boxes_Join [.d (.sl (Ψ .dBs l))] [] (.d (.agg (dB Ψ (Ψ .cB (bjoins l))))) [] := by
  refine G.boxes_Join fun C C2 hC hC2 => ?_
  have hq : ∀ i, Bq k (bjoins (l.take i)) := fun i => Bq_joins hk _ (fun b hb => hl b (List.mem_of_mem_take hb))
  have hst : ∀ i r, l[i]? = some r → 0 < i → bjoins (l.take (i + 1)) = bjoin (bjoins (l.take i)) (bv r) := fun i r hr hi => by
    have hlt := (List.getElem?_eq_some_iff.1 hr).1
    rw [take_succ_of hr, bjoins_snoc _ _ (fun c => by
      have := congrArg List.length c
      rw [List.length_take, List.length_nil] at this
      omega)]
  have hst0 : ∀ r, l[0]? = some r → bjoins (l.take 1) = bv r := fun r hr => by rw [take_succ_of hr]; rfl
  have hlast : bjoins (l.take l.length) = bjoins l := by rw [List.take_length]
  have hz : bjoins (l.take 0) = b0 := rfl
  obtain ⟨R0, hR0⟩ : ∃ R, R = bjoins l := ⟨_, rfl⟩
  rw [← hR0] at hlast ⊢
  obtain ⟨S, hS⟩ : ∃ S : Nat → B3, S = fun i => bjoins (l.take i) := ⟨_, rfl⟩
  have hSe : ∀ i, bjoins (l.take i) = S i := fun i => by rw [hS]
  simp only [hSe] at hq hst hst0 hlast hz
  clear hSe hS
  have e0 : Ψ .cr 0 = (Ψ .cB (S 0)).lo.x := by rw [hz]; rfl
  have g0 := zero_good
  rw [e0] at g0
  refine nx ?_
  refine ⟨_, hC _ _ _ g0, ?_⟩
  refine nx ?_
  refine LoopG.intro (σ := Nat) [2, 4, 17, 18, 19] [1050, 1051]
      (fun i => [.ptr 1050 0, .ptr 1051 0, .d (.sl (Ψ .dBs l)), .d (.i .i64 (Ω .ci l.length)), .d (.i .i64 (Ω .ci i))])
      (fun i => [.var [.d (.b false), .nil, .nil, .d (.b false), .nil, .nil, .d (.b false), .nil, .nil, .d (.b false), .nil, .nil, .d (.b false), .nil, .nil, .d (.b false), .nil, .nil], .var ((dB Ψ (Ψ .cB (S i))).map V.d)])
      (fun i => i ≤ l.length)
      (fun i => l.length - i) 0 [1000, 1209] (Nat.zero_le _) ⟨rfl, rfl, ?_⟩ ?_
  · have e : Ψ .cB (S 0) = ⟨⟨Ψ .cr 0, Ψ .cr 0, Ψ .cr 0⟩, ⟨Ψ .cr 0, Ψ .cr 0, Ψ .cr 0⟩⟩ := by rw [hz]; rfl
    rw [e]
    rfl
  rintro (_ | i) hi
  · refine nx ?_
    refine BrG.split (fun h => ?_) (fun h => ?_)
    · have hlen : 0 < l.length := by have := h; simp only [wz] at this; omega
      obtain ⟨r, hr⟩ : ∃ r, l[0]? = some r := ⟨_, List.getElem?_eq_getElem hlen⟩
      have hb := hl r (List.mem_of_getElem? hr)
      have e := hst0 r hr
      have g1 := least_good r.lo.x r.lo.x hb.lo.x hb.lo.x hk2
      have g2 := least_good r.lo.y r.lo.y hb.lo.y hb.lo.y hk2
      have g3 := least_good r.lo.z r.lo.z hb.lo.z hb.lo.z hk2
      have g4 := most_good r.hi.x r.hi.x hb.hi.x hb.hi.x hk2
      have g5 := most_good r.hi.y r.hi.y hb.hi.y hb.hi.y hk2
      have g6 := most_good r.hi.z r.hi.z hb.hi.z hb.hi.z hk2
      rw [rmin_self] at g1 g2 g3
      rw [rmax_self] at g4 g5 g6
      have e1 : Ψ .cr (rv r.lo.x) = (Ψ .cB (S 1)).lo.x := by rw [e]; rfl
      have e2 : Ψ .cr (rv r.lo.y) = (Ψ .cB (S 1)).lo.y := by rw [e]; rfl
      have e3 : Ψ .cr (rv r.lo.z) = (Ψ .cB (S 1)).lo.z := by rw [e]; rfl
      have e4 : Ψ .cr (rv r.hi.x) = (Ψ .cB (S 1)).hi.x := by rw [e]; rfl
      have e5 : Ψ .cr (rv r.hi.y) = (Ψ .cB (S 1)).hi.y := by rw [e]; rfl
      have e6 : Ψ .cr (rv r.hi.z) = (Ψ .cB (S 1)).hi.z := by rw [e]; rfl
      rw [e1] at g1
      rw [e2] at g2
      rw [e3] at g3
      rw [e4] at g4
      rw [e5] at g5
      rw [e6] at g6
      refine nx ?_
      refine ⟨Int.le_refl _, (idx_dBs 0 r rfl hr rfl ?_).2⟩
      refine nx ?_
      refine BrG.yes rfl ?_
      refine nx ?_
      refine ⟨_, hC _ _ _ g1, ?_⟩
      refine nx ?_
      refine ⟨_, hC _ _ _ g2, ?_⟩
      refine nx ?_
      refine ⟨_, hC _ _ _ g3, ?_⟩
      refine nx ?_
      refine ⟨_, hC _ _ _ g4, ?_⟩
      refine nx ?_
      refine ⟨_, hC _ _ _ g5, ?_⟩
      refine nx ?_
      refine ⟨_, hC _ _ _ g6, ?_⟩
      refine nx ?_
      refine ⟨1, [1050, 1051], hlen, by omega, rfl, ?_, rfl⟩
      refine Eq.trans (b := [.ptr 1050 0, .ptr 1051 0, .d (.sl (Ψ .dBs l)), .d (.i .i64 (Ω .ci l.length)), .d (.i .i64 _)]) rfl ?_
      rw [wrap_succ (by omega)]
    · have hlen : l.length = 0 := by
        have := h; simp only [wz] at this
        omega
      rw [hlen] at hlast
      subst hlast
      exact nx trivial
  · refine nx ?_
    refine BrG.split (fun h => ?_) (fun h => ?_)
    · have hlen : i + 1 < l.length := by have := h; simp only [wz] at this; omega
      obtain ⟨r, hr⟩ : ∃ r, l[i + 1]? = some r := ⟨_, List.getElem?_eq_getElem hlen⟩
      have hb := hl r (List.mem_of_getElem? hr)
      have e := hst _ r hr (by omega)
      have q := Bn_cB (hq (i + 1))
      have g1 := least_good (Ψ .cB (S (i + 1))).lo.x r.lo.x q.lo.x hb.lo.x hk2
      have g2 := least_good (Ψ .cB (S (i + 1))).lo.y r.lo.y q.lo.y hb.lo.y hk2
      have g3 := least_good (Ψ .cB (S (i + 1))).lo.z r.lo.z q.lo.z hb.lo.z hk2
      have g4 := most_good (Ψ .cB (S (i + 1))).hi.x r.hi.x q.hi.x hb.hi.x hk2
      have g5 := most_good (Ψ .cB (S (i + 1))).hi.y r.hi.y q.hi.y hb.hi.y hk2
      have g6 := most_good (Ψ .cB (S (i + 1))).hi.z r.hi.z q.hi.z hb.hi.z hk2
      have e1 : Ψ .cr (rmin (rv (Ψ .cB (S (i + 1))).lo.x) (rv r.lo.x)) = (Ψ .cB (S (i + 1 + 1))).lo.x := by rw [e, show rv (Ψ .cB (S (i + 1))).lo.x = (S (i + 1)).lo.x from rv_cr _]; rfl
      have e2 : Ψ .cr (rmin (rv (Ψ .cB (S (i + 1))).lo.y) (rv r.lo.y)) = (Ψ .cB (S (i + 1 + 1))).lo.y := by rw [e, show rv (Ψ .cB (S (i + 1))).lo.y = (S (i + 1)).lo.y from rv_cr _]; rfl
      have e3 : Ψ .cr (rmin (rv (Ψ .cB (S (i + 1))).lo.z) (rv r.lo.z)) = (Ψ .cB (S (i + 1 + 1))).lo.z := by rw [e, show rv (Ψ .cB (S (i + 1))).lo.z = (S (i + 1)).lo.z from rv_cr _]; rfl
      have e4 : Ψ .cr (rmax (rv (Ψ .cB (S (i + 1))).hi.x) (rv r.hi.x)) = (Ψ .cB (S (i + 1 + 1))).hi.x := by rw [e, show rv (Ψ .cB (S (i + 1))).hi.x = (S (i + 1)).hi.x from rv_cr _]; rfl
      have e5 : Ψ .cr (rmax (rv (Ψ .cB (S (i + 1))).hi.y) (rv r.hi.y)) = (Ψ .cB (S (i + 1 + 1))).hi.y := by rw [e, show rv (Ψ .cB (S (i + 1))).hi.y = (S (i + 1)).hi.y from rv_cr _]; rfl
      have e6 : Ψ .cr (rmax (rv (Ψ .cB (S (i + 1))).hi.z) (rv r.hi.z)) = (Ψ .cB (S (i + 1 + 1))).hi.z := by rw [e, show rv (Ψ .cB (S (i + 1))).hi.z = (S (i + 1)).hi.z from rv_cr _]; rfl
      rw [e1] at g1
      rw [e2] at g2
      rw [e3] at g3
      rw [e4] at g4
      rw [e5] at g5
      rw [e6] at g6
      refine nx ?_
      refine idx_dBs (i + 1) r rfl hr rfl ?_
      refine nx ?_
      refine BrG.split (fun h => ?_) (fun h => ?_)
      · exfalso
        simp [wz] at h
        first | omega | (have := of_decide_eq_true h; omega)
      refine nx ?_
      refine ⟨_, hC _ _ _ g1, ?_⟩
      refine nx ?_
      refine ⟨_, hC _ _ _ g2, ?_⟩
      refine nx ?_
      refine ⟨_, hC _ _ _ g3, ?_⟩
      refine nx ?_
      refine ⟨_, hC _ _ _ g4, ?_⟩
      refine nx ?_
      refine ⟨_, hC _ _ _ g5, ?_⟩
      refine nx ?_
      refine ⟨_, hC _ _ _ g6, ?_⟩
      refine nx ?_
      refine ⟨i + 1 + 1, [1050, 1051], hlen, by omega, rfl, ?_, rfl⟩
      refine Eq.trans (b := [.ptr 1050 0, .ptr 1051 0, .d (.sl (Ψ .dBs l)), .d (.i .i64 (Ω .ci l.length)), .d (.i .i64 _)]) rfl ?_
      rw [wrap_succ (by omega)]
    · have hlen : i + 1 = l.length := by have := h; simp only [wz] at this; omega
      rw [← hlen] at hlast
      subst hlast
      exact nx trivial

theorem cells18 (b : BL) : ∀ u, u ∈ [D.agg (dB Ψ b)] → u.cells.length = 18 := fun u h => by
  rw [List.mem_singleton.1 h]; rfl

theorem around_good (l : List VL) {k : Nat} (hl : ∀ b, b ∈ l → Vn k b) (hln : l.length < 68719476736) (hk : 0 < k) (hk2 : k < 68719476736) :
    Good P F.boxes_Around [.d (.sl (Ψ .dVs l))] [] (.d (.agg (dB Ψ (Ψ .cB (bjoins (l.map pbox)))))) [] := by
  refine G.boxes_Around fun C C2 hC hC2 => ?_
  have gj := join_good (l.map pbox) (k := k) (fun b hb => by
    obtain ⟨v, hv, rfl⟩ := List.mem_map.1 hb
    exact ⟨hl v hv, hl v hv⟩) (by simp only [List.length_map]; exact hln) hk hk2
  obtain ⟨R, hR⟩ : ∃ R, R = Ψ .cB (bjoins (l.map pbox)) := ⟨_, rfl⟩
  rw [← hR] at gj ⊢
  clear hR
  have hst : ∀ i r, l[i]? = some r → (l.take (i + 1)).map pbox = (l.take i).map pbox ++ [pbox r] := fun i r hr => by rw [take_succ_of hr]; simp
  have hlast : (l.take l.length).map pbox = l.map pbox := by rw [List.take_length]
  have hz : (l.take 0).map pbox = [] := rfl
  have hlen : ∀ i, i ≤ l.length → ((l.take i).map pbox).length = i := fun i hi => by simp; omega
  obtain ⟨S, hS⟩ : ∃ S : Nat → List BL, S = fun i => (l.take i).map pbox := ⟨_, rfl⟩
  have hSe : ∀ i, (l.take i).map pbox = S i := fun i => by rw [hS]
  simp only [hSe] at hst hlast hz hlen
  clear hSe hS
  rw [← hlast] at gj
  refine nx ?_
  refine LoopG.intro2 (σ := Nat) [2, 3, 6, 7, 8] (fun i => match i with | 0 => [1050] | _ + 1 => [1050, 1051])
      (fun i => [.ptr 1050 0, match i with | 0 => .nil | _ + 1 => .own 1051 18, .d (.sl (Ψ .dVs l)), .d (.i .i64 (Ω .ci l.length)), .d (.i .i64 (Ω .ci i))])
      (fun i => .var [.d (.b false), .nil, .nil, .d (.b false), .nil, .nil, .d (.b false), .nil, .nil, .d (.b false), .nil, .nil, .d (.b false), .nil, .nil, .d (.b false), .nil, .nil] :: match i with | 0 => [] | i + 1 => [.row true T.api_Box 18 (Ψ .dBs (S (i + 1)))])
      (fun i => i ≤ l.length)
      (fun i => l.length - i) 0 [1000] (Nat.zero_le _) ⟨rfl, rfl, rfl⟩ ?_
  rintro (_ | i) hi
  · refine nx ?_
    refine BrG.split (fun h => ?_) (fun h => ?_)
    · have hlt : 0 < l.length := by have := h; simp only [wz] at this; omega
      obtain ⟨r, hr⟩ : ∃ r, l[0]? = some r := ⟨_, List.getElem?_eq_getElem hlt⟩
      have e := hst 0 r hr
      rw [hz] at e
      refine nx ?_
      refine ⟨Int.le_refl _, (idx_dVs 0 r rfl hr rfl ?_).2⟩
      refine nx ?_
      refine ⟨cells18 (pbox r), (by simp only [wz]; omega), 1, [1050, 1505], hlt, by omega, rfl, ?_, ?_⟩
      · refine Eq.trans (b := [.ptr 1050 0, .own 1051 18, .d (.sl (Ψ .dVs l)), .d (.i .i64 (Ω .ci l.length)), .d (.i .i64 _)]) rfl ?_
        rw [wrap_succ (by omega)]
      · simp only
        rw [e]
        rfl
    · have hl0 : l.length = 0 := by
        have := h; simp only [wz] at this
        omega
      rw [hl0, hz] at gj
      refine nx ?_
      refine ⟨_, hC _ _ _ gj, ?_⟩
      exact nx trivial
  · have hsl := hlen (i + 1) hi
    refine nx ?_
    refine BrG.split (fun h => ?_) (fun h => ?_)
    · have hlt : i + 1 < l.length := by have := h; simp only [wz] at this; omega
      obtain ⟨r, hr⟩ : ∃ r, l[i + 1]? = some r := ⟨_, List.getElem?_eq_getElem hlt⟩
      have e := hst _ r hr
      refine nx ?_
      refine idx_dVs (i + 1) r rfl hr rfl ?_
      refine nx ?_
      refine ⟨cells18 (pbox r), (by simp only [wz, slen_dBs]; omega), i + 1 + 1, [1050, 1505], hlt, by omega, rfl, ?_, ?_⟩
      · refine Eq.trans (b := [.ptr 1050 0, .own 1051 18, .d (.sl (Ψ .dVs l)), .d (.i .i64 (Ω .ci l.length)), .d (.i .i64 _)]) rfl ?_
        rw [wrap_succ (by omega)]
      · simp only
        rw [e, ← scat_dBs]
        rfl
    · have hl0 : i + 1 = l.length := by have := h; simp only [wz] at this; omega
      rw [← hl0] at gj
      refine nx ?_
      refine ⟨_, hC _ _ _ gj, ?_⟩
      exact nx trivial
end Go.K.S
end
