/-
  Parts of the proof, joined by a program of this work: KLong, KCmp, KDivMod, KGcd, KMade, KArith, KPlus, KRatP, KRatQ, KVecs, KVec.
-/
import Derived.Test.YtjoimiljaljgcaaGreatMah
import Derived.Test.YtjoimiljaljgcaaGreatMaa
set_option linter.unusedSimpArgs false
set_option linter.unusedVariables false
section
namespace Go.K
theorem long_round {w q : List Nat} {j m V Q R' X : Nat} (hw : lim w) (hj : j + m ≤ w.length) (hjq : j < q.length) (hq : lim q) (hZ : nv ((w.drop j).drop m) = 0) (hR' : R' < 4294967296 ^ m) (hQ : Q < 4294967296)
    (h : nv ((w.drop j).take m) = Q * V + R') (hinv : nv w + V * (4294967296 ^ (j + 1) * nv (q.drop (j + 1))) = X) (hlt : R' < V) :
    lim (w.take j ++ ln m R' ++ w.drop (j + m)) ∧ (w.take j ++ ln m R' ++ w.drop (j + m)).length = w.length ∧ lim (q.set j Q) ∧ (q.set j Q).length = q.length ∧
      nv (w.take j ++ ln m R' ++ w.drop (j + m)) + V * (4294967296 ^ j * nv ((q.set j Q).drop j)) = X ∧ nv ((w.take j ++ ln m R' ++ w.drop (j + m)).drop j) < V := by
  have hlA : (w.take j).length = j := by rw [List.length_take]; omega
  have hZ' : nv (w.drop (j + m)) = 0 := by rw [List.drop_drop] at hZ; exact hZ
  have hval : nv (ln m R' ++ w.drop (j + m)) = R' := by rw [nv_append, nv_ln hR', hZ', Nat.mul_zero, Nat.add_zero]
  have hwv : nv w = nv (w.take j) + 4294967296 ^ j * (Q * V + R') := by
    rw [nv_split w j (by omega), nv_split (w.drop j) m (by simp; omega), hZ, Nat.mul_zero, Nat.add_zero, h]
  refine ⟨lim_append.2 ⟨lim_append.2 ⟨lim_take hw _, lim_ln _ _⟩, lim_drop hw _⟩, ?_, lim_set hq _ hQ, by simp, ?_, ?_⟩
  · simp [len_ln]; omega
  · rw [List.append_assoc, nv_append, hval, hlA, nv_set_drop hjq, ← hinv, hwv, Nat.pow_succ]
    generalize nv (q.drop (j + 1)) = d
    generalize 4294967296 ^ j = M
    generalize nv (w.take j) = a
    rw [Nat.mul_add M (Q * V), Nat.mul_add M Q, Nat.mul_add V, Nat.mul_assoc M 4294967296 d]
    have : V * (M * Q) = M * (Q * V) := by ac_rfl
    omega
  · have : (w.take j ++ ln m R' ++ w.drop (j + m)).drop j = ln m R' ++ w.drop (j + m) := by
      rw [List.append_assoc, List.drop_append_of_le_length (by omega), List.drop_of_length_le (by omega), List.nil_append]
    rw [this, hval]
    exact hlt
theorem guess_right {R V G : Nat} (h2 : R / V ≤ G) (h3 : ¬ R < G * V) (hV : 0 < V) : R = G * V + (R - G * V) ∧ R - G * V < V := by
  have h4 := (Nat.div_lt_iff_lt_mul hV).1 (Nat.lt_succ_of_le h2)
  rw [Nat.succ_mul] at h4
  omega
theorem guess_over {R V G M : Nat} (h1 : G * V < R + V) (h3 : R < G * V) (hV : V < M) : 0 < G ∧ (R + M - G * V + V) % M = R + V - G * V ∧ R = (G - 1) * V + (R + V - G * V) ∧ R + V - G * V < V := by
  have hG : 0 < G := by
    rcases Nat.eq_zero_or_pos G with c | c
    · subst c; omega
    · exact c
  obtain ⟨g, rfl⟩ : ∃ g, G = g + 1 := ⟨G - 1, by omega⟩
  rw [Nat.add_mul, Nat.one_mul] at *
  refine ⟨hG, ?_, ?_, by omega⟩
  · rw [show R + M - (g * V + V) + V = M + (R + V - (g * V + V)) by omega, Nat.add_mod_left, Nat.mod_eq_of_lt (by omega)]
  · simp only [Nat.add_sub_cancel]; omega
theorem shifted_top {b : List Nat} {n top s : Nat} (hb : lim b) (hn : b.length = n + 1) (ht : b[n]? = some top) (ht0 : top ≠ 0) (hs : s = 32 - bl top) :
    4294967296 ^ n * 2147483648 ≤ nv b * 2 ^ s ∧ nv b * 2 ^ s < 4294967296 ^ (n + 1) := by
  have htl := lim_get hb ht
  have hbl : bl top ≤ 32 := bl_le.2 htl
  have h1 := nv_take_succ ht
  rw [← hn, List.take_length] at h1
  have h2 := nv_lt (lim_take hb n)
  rw [List.length_take, Nat.min_eq_left (by omega)] at h2
  have hlo : 2 ^ (bl top - 1) ≤ top := by
    rcases Nat.lt_or_ge top (2 ^ (bl top - 1)) with q | q
    · have h3 := bl_le.2 q
      have h4 : bl top ≠ 0 := fun h => ht0 (bl_eq_zero.1 h)
      omega
    · exact q
  have h4 : bl top ≠ 0 := fun h => ht0 (bl_eq_zero.1 h)
  have hp1 : 2 ^ (bl top - 1) * 2 ^ s = 2147483648 := by rw [← Nat.pow_add, show bl top - 1 + s = 31 by omega]
  have hp2 : 2 ^ bl top * 2 ^ s = 4294967296 := by rw [← Nat.pow_add, show bl top + s = 32 by omega]
  have hhi := bl_lt top
  have a1 : 2147483648 ≤ top * 2 ^ s := by rw [← hp1]; exact Nat.mul_le_mul_right _ hlo
  have a2 : (top + 1) * 2 ^ s ≤ 4294967296 := by rw [← hp2]; exact Nat.mul_le_mul_right _ hhi
  rw [Nat.pow_succ]
  generalize 4294967296 ^ n = M at *
  refine ⟨?_, ?_⟩
  · have := Nat.mul_le_mul_left M a1
    rw [← Nat.mul_assoc] at this
    rw [h1, Nat.add_mul]
    omega
  · have h5 : nv b + 1 ≤ M * (top + 1) := by rw [h1, Nat.mul_add]; omega
    have h6 := Nat.mul_le_mul_right (2 ^ s) h5
    have h7 := Nat.mul_le_mul_left M a2
    rw [← Nat.mul_assoc] at h7
    have h8 : 0 < 2 ^ s := Nat.pow_pos (by omega)
    rw [Nat.add_mul] at h6
    omega
end Go.K
namespace Go.K.S
open Go Go.K
set_option maxHeartbeats 20000000
set_option maxRecDepth 20000
def mdLong : FuncId → Bool := fun g => g == F.nat_Shl || g == F.nat_less || g == F.nat_back
theorem long_good (a b : List Nat) (ha : N a) (hb : N b) (hcb : cano b) (hb2 : 2 ≤ b.length) (hab : b.length ≤ a.length) (hal : a.length < 549755813888) :
    Good P F.nat_long [.d (dN Ψ a), .d (dN Ψ b)] [] (.tup [.d (dN Ψ (Ψ .cn (nv a / nv b))), .d (dN Ψ (Ψ .cn (nv a % nv b)))]) [] := by
  refine G1.nat_long mdLong fun C C2 hC hC2 => ?_
  obtain ⟨top, htop⟩ : ∃ t, b[b.length - 1]? = some t := ⟨_, List.getElem?_eq_getElem (by omega)⟩
  have htl := lim_get hb.lim htop
  have ht0 : top ≠ 0 := hcb top (by rw [List.getLast?_eq_getElem?]; exact htop)
  have hbl : bl top ≤ 32 := bl_le.2 htl
  have hbl0 : 0 < bl top := by rcases Nat.eq_zero_or_pos (bl top) with q | q
                               · exact absurd (bl_eq_zero.1 q) ht0
                               · exact q
  refine nx ?_
  refine idx_lims (b.length - 1) top (wrap_pred (by omega) (by have := hb.len; omega)) htop rfl ?_
  refine nx ?_
  refine ⟨_, hC _ _ _ (lead32_good top htl), ?_⟩
  obtain ⟨s, hs⟩ : ∃ s, s = 32 - bl top := ⟨_, rfl⟩
  rw [← hs]
  have hs32 : s < 32 := by omega
  refine nx ?_
  have hv := shl_own b s hb (by omega) (by omega)
  have hu := shl_own a s ha (by omega) (by omega)
  refine ⟨_, _, hC2 _ _ _ _ _ hv, ?_⟩
  refine nx ?_
  refine ⟨_, _, hC2 _ _ _ _ _ hu, ?_⟩
  refine nx ?_
  obtain ⟨n, hn⟩ : ∃ n, b.length = n + 2 := ⟨b.length - 2, by omega⟩
  have hst := shifted_top hb.lim (n := n + 1) (by omega) (by rw [show n + 1 = b.length - 1 by omega]; exact htop) ht0 hs
  obtain ⟨vl, hvl⟩ : ∃ vl, vl = Ψ .cn (nv b * 2 ^ s) := ⟨_, rfl⟩
  obtain ⟨ul, hul⟩ : ∃ ul, ul = Ψ .cn (nv a * 2 ^ s) := ⟨_, rfl⟩
  have hvn : nv vl = nv b * 2 ^ s := by rw [hvl, nv_cn]
  have hun : nv ul = nv a * 2 ^ s := by rw [hul, nv_cn]
  have hvlim : lim vl := by rw [hvl]; exact lim_cn _
  have hulim : lim ul := by rw [hul]; exact lim_cn _
  have hvlen : vl.length = n + 2 := by
    have h1 : vl.length ≤ n + 2 := by rw [hvl]; exact len_cn.2 hst.2
    have h2 : ¬ vl.length ≤ n + 1 := fun q => by
      rw [hvl] at q
      have := len_cn.1 q
      have h3 : 0 < 4294967296 ^ (n + 1) := Nat.pow_pos (by omega)
      have h4 := hst.1
      omega
    omega
  have hulen : ul.length ≤ a.length + 1 := by
    rw [hul]
    refine len_cn.2 ?_
    have h1 := nv_lt ha.lim
    have h2 : 2 ^ s ≤ 4294967296 := Nat.pow_le_pow_right (n := 2) (by omega) (show s ≤ 32 by omega)
    rw [Nat.pow_succ]
    exact Nat.lt_of_lt_of_le (Nat.mul_lt_mul_of_pos_right h1 (Nat.pow_pos (by omega))) (Nat.mul_le_mul_left _ h2)
  rw [← hvl, ← hul]
  refine LoopG.intro (σ := List Nat) [0, 6, 7, 9, 11] [1050, 1051]
    (fun w => [.d (dN Ψ a), .d (.i .i64 (Ω .ci s)), .own 1051 1, .own 1050 1, .d (.i .i64 (Ω .ci vl.length))])
    (fun w => [.row true T.uint32 1 (Ψ .lims w), .row true T.uint32 1 (Ψ .lims vl)])
    (fun w => lim w ∧ nv w = nv a * 2 ^ s ∧ w.length ≤ a.length + 1)
    (fun w => a.length + 1 - w.length) ul [1010416, 1009616] ⟨hulim, hun, hulen⟩ ⟨rfl, rfl, rfl⟩ ?_
  rintro w ⟨hw, hwn, hwl⟩
  refine nx ?_
  refine BrG.split (fun h => ?_) (fun h => ?_)
  · have hlt : w.length ≤ a.length := by have := h; simp only [wz] at this; omega
    refine nx ?_
    refine ⟨cells_one _ _, (by simp only [wz]; omega), w ++ [0], [1602, 1051], ⟨lim_append.2 ⟨hw, by simp [lim_cons, lim_nil]⟩, by rw [nv_snoc]; omega, by simp; omega⟩, by simp; omega, rfl, rfl, ?_⟩
    refine Eq.trans (b := [.row true T.uint32 1 _, .row true T.uint32 1 (Ψ .lims vl)]) rfl ?_
    rw [← scat_snoc]; rfl
  · have hlt : w.length = a.length + 1 := by have := h; simp only [wz] at this; omega
    obtain ⟨K0, hK0⟩ : ∃ K0, K0 = w.length - vl.length := ⟨_, rfl⟩
    have hw1 : Ω .wrap .i64 (Ω .ci w.length - Ω .ci vl.length) = Ω .ci K0 := by rw [wrap_sub (by omega) (by omega), hK0]
    refine nx ?_
    rw [hw1]
    refine ⟨ci_nonneg _, Int.le_refl _, by simp only [wz]; omega, by simp only [wz]; omega, ?_⟩
    refine LoopG.intro (σ := Nat × List Nat × List Nat) [6, 7, 9, 11, 12, 13] [1050, 1051, 1052]
      (fun x => [.d (.i .i64 (Ω .ci s)), .own 1051 1, .own 1050 1, .d (.i .i64 (Ω .ci vl.length)), .own 1052 1, .d (.i .i64 (Ω .wrap .i64 (Ω .ci x.1 - 1)))])
      (fun x => [.row true T.uint32 1 (Ψ .lims x.2.1), .row true T.uint32 1 (Ψ .lims vl), .row true T.uint32 1 (Ψ .lims x.2.2)])
      (fun x => x.1 ≤ K0 ∧ lim x.2.1 ∧ x.2.1.length = a.length + 1 ∧ lim x.2.2 ∧ x.2.2.length = K0 ∧ nv x.2.1 + nv vl * (4294967296 ^ x.1 * nv (x.2.2.drop x.1)) = nv a * 2 ^ s ∧ nv (x.2.1.drop x.1) < nv vl)
      (fun x => x.1) (K0, w, List.replicate K0 0) [1050, 1051, 1704] ⟨Nat.le_refl _, hw, hlt, lim_rep _, by simp, by simp [hwn], ?_⟩ ⟨rfl, ?_, ?_⟩ ?_
    · simp only
      have h1 := nv_split w K0 (by omega)
      rw [hwn] at h1
      have h2 := Nat.mul_lt_mul_of_pos_right (nv_lt ha.lim) (Nat.pow_pos (n := s) (show 0 < 2 by omega))
      rw [show a.length = K0 + (n + 1) by omega, Nat.pow_add, Nat.mul_assoc] at h2
      have h3 : 2 ^ s ≤ 2147483648 := Nat.pow_le_pow_right (n := 2) (by omega) (show s ≤ 31 by omega)
      have h4 := Nat.mul_le_mul_left (4294967296 ^ (n + 1)) h3
      have h5 := hst.1
      rw [hvn]
      rcases Nat.lt_or_ge (nv (w.drop K0)) (nv b * 2 ^ s) with c | c
      · exact c
      · have h6 := Nat.mul_le_mul_left (4294967296 ^ K0) (show 4294967296 ^ (n + 1) * 2 ^ s ≤ nv (w.drop K0) by omega)
        omega
    · refine Eq.trans (b := [.d (.i .i64 (Ω .ci s)), .own 1051 1, .own 1050 1, .d (.i .i64 (Ω .ci vl.length)), .own 1052 1, .d (.i .i64 _)]) rfl ?_
      rfl
    · refine Eq.trans (b := [.row true T.uint32 1 (Ψ .lims w), .row true T.uint32 1 (Ψ .lims vl), .row true T.uint32 1 _]) rfl ?_
      rw [← srep_lims]; rfl
    rintro ⟨k, w, q⟩ ⟨hk, hwlim, hwlen, hqlim, hqlen, hinv, hrem⟩
    simp only at hk hwlim hwlen hqlim hqlen hinv hrem
    refine nx ?_
    refine BrG.split (fun h => ?_) (fun h => ?_)
    · rw [wrap64 (by simp only [wz]; omega) (by simp only [wz]; omega)] at h
      have hk0 : 0 < k := by have := h; simp only [wz] at this; omega
      obtain ⟨j, rfl⟩ : ∃ j, k = j + 1 := ⟨k - 1, by omega⟩
      have e1 : Ω .wrap .i64 (Ω .ci (j + 1) - 1) = Ω .ci j := wrap_pred (by omega) (by omega)
      rw [e1]
      have hWl : ((w.drop j).take (n + 3)).length = n + 3 := by simp; omega
      obtain ⟨x2, hx2⟩ : ∃ x, w[j + (n + 2)]? = some x := ⟨_, List.getElem?_eq_getElem (by omega)⟩
      obtain ⟨x1, hx1⟩ : ∃ x, w[j + (n + 1)]? = some x := ⟨_, List.getElem?_eq_getElem (by omega)⟩
      obtain ⟨x0, hx0⟩ : ∃ x, w[j + n]? = some x := ⟨_, List.getElem?_eq_getElem (by omega)⟩
      obtain ⟨v1, hv1⟩ : ∃ x, vl[n + 1]? = some x := ⟨_, List.getElem?_eq_getElem (by omega)⟩
      obtain ⟨v0, hv0⟩ : ∃ x, vl[n]? = some x := ⟨_, List.getElem?_eq_getElem (by omega)⟩
      have l2 := lim_get hwlim hx2
      have l1 := lim_get hwlim hx1
      have l0 := lim_get hwlim hx0
      have lv1 := lim_get hvlim hv1
      have lv0 := lim_get hvlim hv0
      have i1 : Ω .wrap .i64 (Ω .ci j + Ω .ci vl.length) = Ω .ci (j + (n + 2)) := by rw [wrap_add (by omega), hvlen]
      have i2 : Ω .wrap .i64 (Ω .ci (j + (n + 2)) - 1) = Ω .ci (j + (n + 1)) := wrap_pred (by omega) (by omega)
      have i3 : Ω .wrap .i64 (Ω .ci vl.length - 1) = Ω .ci (n + 1) := by rw [wrap_pred (by omega) (by omega), hvlen]; rfl
      have i4 : Ω .wrap .i64 (Ω .ci vl.length - 2) = Ω .ci n := by
        rw [wrap64 (by simp only [wz]; omega) (by simp only [wz]; omega)]; simp only [wz]; omega
      have i5 : Ω .wrap .i64 (Ω .ci (j + (n + 2)) - 2) = Ω .ci (j + n) := by
        rw [wrap64 (by simp only [wz]; omega) (by simp only [wz]; omega)]; simp only [wz]; omega
      refine nx ?_
      refine own_lims (j + (n + 2)) x2 i1 hx2 ?_ ?_ ?_
      · exact Nat.le_refl _
      · exact rfl
      refine nx ?_
      refine own_lims (j + (n + 1)) x1 (by rw [i1]; exact i2) hx1 ?_ ?_ ?_
      · exact Nat.le_refl _
      · exact rfl
      refine nx ?_
      have hT : Ω .ior .u64 (Ω .ishl .u64 (Ω .wrap .u64 (Ω .ci x2)) 32) (Ω .wrap .u64 (Ω .ci x1)) = Ω .ci (x2 * 4294967296 + x1) := by
        rw [wrapu64_ci, wrapu64_ci, Nat.mod_eq_of_lt (by omega), Nat.mod_eq_of_lt (by omega), ishl32, wrapu64_ci, Nat.mod_eq_of_lt (by omega), ior64_ci (by omega) (by omega), or_shl _ l1]
      have hv1w : Ω .wrap .u64 (Ω .ci v1) = Ω .ci v1 := by rw [wrapu64_ci, Nat.mod_eq_of_lt (by omega)]
      rw [hT]
      obtain ⟨T', hT'⟩ : ∃ t, t = x2 * 4294967296 + x1 := ⟨_, rfl⟩
      have hTl : T' < 18446744073709551616 := by omega
      rw [← hT']
      refine own_lims (n + 1) v1 i3 hv1 ?_ ?_ ?_
      · exact Nat.le_refl _
      · exact rfl
      refine nx ?_
      have hv1b : 2147483648 ≤ v1 := by
        have h1 := nv_take_succ hv1
        rw [show n + 1 + 1 = vl.length by omega, List.take_length, hvn] at h1
        have h2 := nv_lt (lim_take hvlim (n + 1))
        rw [List.length_take, Nat.min_eq_left (by omega)] at h2
        have h3 := hst.1
        rcases Nat.lt_or_ge v1 2147483648 with c | c
        · have h4 := Nat.mul_le_mul_left (4294967296 ^ (n + 1)) (show v1 + 1 ≤ 2147483648 by omega)
          rw [Nat.mul_add] at h4
          omega
        · exact c
      rw [hv1w]
      refine ⟨by simp only [wz]; omega, ?_⟩
      refine own_lims (n + 1) v1 i3 hv1 ?_ ?_ ?_
      · exact Nat.le_refl _
      · exact rfl
      refine nx ?_
      rw [hv1w]
      refine ⟨by simp only [wz]; omega, ?_⟩
      obtain ⟨R, hR⟩ : ∃ R, R = nv (w.drop j) := ⟨_, rfl⟩
      have hRs : R < 4294967296 * nv vl := by
        obtain ⟨y, hy⟩ : ∃ y, w[j]? = some y := ⟨_, List.getElem?_eq_getElem (by omega)⟩
        have hyl := lim_get hwlim hy
        rw [hR, nv_drop hy]
        omega
      have hVlt : nv vl < 4294967296 ^ (n + 2) := by have := nv_lt hvlim; rwa [hvlen] at this
      have hsplit := nv_split (w.drop j) (n + 3) (by simp; omega)
      have hZ0 : nv ((w.drop j).drop (n + 3)) = 0 := by
        rcases Nat.eq_zero_or_pos (nv ((w.drop j).drop (n + 3))) with c | c
        · exact c
        · exfalso
          have h1 := Nat.mul_le_mul_left (4294967296 ^ (n + 3)) c
          have h2 : 4294967296 ^ (n + 3) = 4294967296 ^ (n + 2) * 4294967296 := Nat.pow_succ _ _
          omega
      rw [hZ0, Nat.mul_zero, Nat.add_zero] at hsplit
      have hRW : R = nv ((w.drop j).take n) + 4294967296 ^ n * x0 + 4294967296 ^ n * 4294967296 * x1 + 4294967296 ^ n * 4294967296 * 4294967296 * x2 := by
        have g0 : (w.drop j)[n]? = some x0 := by rw [List.getElem?_drop]; exact hx0
        have g1 : (w.drop j)[n + 1]? = some x1 := by rw [List.getElem?_drop]; exact hx1
        have g2 : (w.drop j)[n + 2]? = some x2 := by rw [List.getElem?_drop]; exact hx2
        rw [hR, hsplit, nv_take_succ g2, nv_take_succ g1, nv_take_succ g0]
        simp only [Nat.pow_succ]
      have hVW : nv vl = nv (vl.take n) + 4294967296 ^ n * v0 + 4294967296 ^ n * 4294967296 * v1 := by
        have := nv_take_succ hv1
        rw [show n + 1 + 1 = vl.length by omega, List.take_length, nv_take_succ hv0, Nat.pow_succ] at this
        exact this
      have hlo : nv ((w.drop j).take n) < 4294967296 ^ n := by
        have := nv_lt (lim_take (lim_drop hwlim j) n)
        rwa [List.length_take, Nat.min_eq_left (by simp; omega)] at this
      have hlo' : nv (vl.take n) < 4294967296 ^ n := by
        have := nv_lt (lim_take hvlim n)
        rwa [List.length_take, Nat.min_eq_left (by omega)] at this
      have kn : Kn R T' x0 (nv ((w.drop j).take n)) (nv vl) v1 v0 (nv (vl.take n)) (4294967296 ^ n) := by
        refine ⟨?_, hlo, ?_, hlo', l0, lv0, hv1b, lv1, hRs⟩
        · rw [hRW, hT']
          generalize 4294967296 ^ n = M
          rw [Nat.add_mul, Nat.add_mul, Nat.add_mul]
          have q1 : x2 * 4294967296 * 4294967296 * M = M * 4294967296 * 4294967296 * x2 := by
            rw [Nat.mul_comm _ M, ← Nat.mul_assoc, ← Nat.mul_assoc, Nat.mul_right_comm M x2, Nat.mul_right_comm _ x2]
          have q2 : x1 * 4294967296 * M = M * 4294967296 * x1 := by rw [Nat.mul_comm _ M, ← Nat.mul_assoc, Nat.mul_right_comm]
          rw [q1, q2, Nat.mul_comm x0]
          omega
        · rw [hVW]
          generalize 4294967296 ^ n = M
          rw [Nat.add_mul]
          have q2 : v1 * 4294967296 * M = M * 4294967296 * v1 := by rw [Nat.mul_comm _ M, ← Nat.mul_assoc, Nat.mul_right_comm]
          rw [q2, Nat.mul_comm v0]
          omega
      have hq : R / nv vl ≤ T' / v1 := kn.first
      rw [tdiv_ci, tmod_ci, wrapu64_ci]
      refine LoopG.intro (σ := Nat × Nat) [6, 7, 9, 11, 12, 13, 15, 16] [1050, 1051, 1052]
        (fun x => [.d (.i .i64 (Ω .ci s)), .own 1051 1, .own 1050 1, .d (.i .i64 (Ω .ci vl.length)), .own 1052 1, .d (.i .i64 (Ω .ci j)), .d (.i .u64 (Ω .ci x.1)), .d (.i .u64 (Ω .ci x.2))])
        (fun x => [.row true T.uint32 1 (Ψ .lims w), .row true T.uint32 1 (Ψ .lims vl), .row true T.uint32 1 (Ψ .lims q)])
        (fun x => x.1 * v1 + x.2 = T' ∧ R / nv vl ≤ x.1 ∧ x.2 < 4294967296)
        (fun x => x.1) (T' / v1, T' % v1) [1050, 1051, 1052] ⟨by have := Nat.div_add_mod T' v1; rw [Nat.mul_comm] at this; exact this, hq, Nat.lt_trans (Nat.mod_lt _ (by omega)) lv1⟩ ⟨rfl, ?_, rfl⟩ ?_
      · refine Eq.trans (b := [.d (.i .i64 (Ω .ci s)), .own 1051 1, .own 1050 1, .d (.i .i64 (Ω .ci vl.length)), .own 1052 1, .d (.i .i64 (Ω .ci j)), .d (.i .u64 _), .d (.i .u64 _)]) rfl ?_
        rw [wrapu64_ci, Nat.mod_eq_of_lt (Nat.lt_of_le_of_lt (Nat.div_le_self _ _) hTl)]
      rintro ⟨g, r⟩ ⟨hg, hge, hr⟩
      simp only at hg hge hr
      have hg64 : g < 18446744073709551616 := by
        have := Nat.le_mul_of_pos_right g (show 0 < v1 by omega)
        omega
      refine nx ?_
      refine BrG.split (fun h => ?_) (fun h => ?_)
      · have hbig : 4294967296 ≤ g := by have := h; simp only [wz] at this; omega
        refine nx ?_
        refine own_lims (n + 1) v1 i3 hv1 ?_ ?_ ?_
        · exact Nat.le_refl _
        · exact rfl
        have hRq : R / nv vl < 4294967296 := (Nat.div_lt_iff_lt_mul (by omega)).2 hRs
        have hgq : R / nv vl ≤ g - 1 := by omega
        refine nx ?_
        have hgm : Ω .wrap .u64 (Ω .ci g - 1) = Ω .ci (g - 1) := by
          rw [show (1 : Int) = Ω .ci 1 from rfl, ci_sub (by omega), wrapu64_ci, Nat.mod_eq_of_lt (by omega)]
        have hgs : (g - 1) * v1 + (r + v1) = T' := by
          obtain ⟨g', rfl⟩ : ∃ g', g = g' + 1 := ⟨g - 1, by omega⟩
          rw [Nat.add_mul] at hg
          simp only [Nat.add_sub_cancel]
          omega
        rw [hgm, hv1w, ci_add, wrapu64_ci, Nat.mod_eq_of_lt (by omega)]
        refine BrG.split (fun h => ?_) (fun h => ?_)
        · have hr2 : 4294967296 ≤ r + v1 := by have := h; simp only [wz] at this; omega
          obtain ⟨hGl, hGV⟩ := kn.broke hgs hr2
          obtain ⟨G, hG⟩ : ∃ G, G = g - 1 := ⟨_, rfl⟩
          rw [← hG] at hGl hGV hgq ⊢
          refine nx ?_
          rw [i1, wrap_succ (by omega)]
          have hwsp : w = w.take j ++ (w.drop j).take (n + 3) ++ w.drop (j + (n + 3)) := by
            rw [List.append_assoc, ← List.drop_drop, List.take_append_drop, List.take_append_drop]
          have hless := less_own (w.take j) ((w.drop j).take (n + 3)) (w.drop (j + (n + 3))) vl G (lim_take (lim_drop hwlim _) _) hvlim (by rw [← hwsp]; omega) (by omega) hGl
          rw [← hwsp, hWl, show (w.take j).length = j by simp; omega, ← hsplit, ← hR] at hless
          have hV0 : 0 < nv vl := by omega
          have hVm : nv vl < 4294967296 ^ (n + 3) := Nat.lt_of_lt_of_le hVlt (B_mono (by omega))
          refine ⟨ci_nonneg _, by simp only [wz]; omega, by simp only [wz]; omega, Int.le_refl _, (by first | exact rfl | exact fun _ => rfl), ?_⟩
          have hjm : j + (n + 2) + 1 - j = n + 3 := by omega
          by_cases hover : R < G * nv vl
          · rw [decide_eq_true hover, if_pos hover] at hless
            obtain ⟨hG0, o1, o2, o3⟩ := guess_over hGV hover hVm
            obtain ⟨w2, hw2⟩ : ∃ l, l = w.take j ++ ln (n + 3) (R + 4294967296 ^ (n + 3) - G * nv vl) ++ w.drop (j + (n + 3)) := ⟨_, rfl⟩
            obtain ⟨w3, hw3⟩ : ∃ l, l = w.take j ++ ln (n + 3) (R + nv vl - G * nv vl) ++ w.drop (j + (n + 3)) := ⟨_, rfl⟩
            rw [← hw2] at hless
            have hw2l : w2.length = w.length := by rw [hw2]; simp [len_ln]; omega
            have hback := back_own (w.take j) (ln (n + 3) (R + 4294967296 ^ (n + 3) - G * nv vl)) (w.drop (j + (n + 3))) vl (lim_ln _ _) hvlim (by rw [← hw2]; omega) (by rw [len_ln]; omega)
            rw [← hw2, len_ln, nv_ln (by omega), o1, show (w.take j).length = j by simp; omega, ← hw3] at hback
            have hround := long_round hwlim (j := j) (m := n + 3) (by omega) (by omega) hqlim hZ0 (by omega) (show G - 1 < 4294967296 by omega) (by rw [← hsplit, ← hR]; exact o2) hinv o3
            rw [← hw3] at hround
            refine ⟨_, _, hC2 _ _ _ _ _ (show Good P F.nat_less [.ref 0 1 j (j + (n + 2) + 1 - j), .own 1 1, .d (.i .u64 (Ω .ci G))] [.row true T.uint32 1 (Ψ .lims w), .row true T.uint32 1 (Ψ .lims vl)] _ _ from by rw [hjm]; exact hless), ?_⟩
            refine nx ?_
            rw [i1, wrap_succ (by omega)]
            refine ⟨ci_nonneg _, by simp only [wz]; omega, by simp only [wz]; omega, Int.le_refl _, (by first | exact rfl | exact fun _ => rfl), ?_⟩
            refine ⟨_, _, hC2 _ _ _ _ _ (show Good P F.nat_back [.ref 0 1 j (j + (n + 2) + 1 - j), .own 1 1] [.row true T.uint32 1 (Ψ .lims w2), .row true T.uint32 1 (Ψ .lims vl)] _ _ from by rw [hjm]; exact hback), ?_⟩
            refine nx ?_
            refine ⟨ci_nonneg _, by simp only [wz]; omega, by show j < q.length; omega, (j, w3, q.set j (G - 1)), [1050, 1051, 1052], ⟨by simp only; omega, hround.1, by simp only; rw [hround.2.1]; exact hwlen, hround.2.2.1, by simp only; rw [hround.2.2.2.1]; exact hqlen, hround.2.2.2.2.1, hround.2.2.2.2.2⟩, by simp only; omega, rfl, ?_, ?_⟩
            · refine Eq.trans (b := [.d (.i .i64 (Ω .ci s)), .own 1051 1, .own 1050 1, .d (.i .i64 (Ω .ci vl.length)), .own 1052 1, .d (.i .i64 _)]) rfl ?_
              rw [wrap64 (by simp only [wz]; omega) (by simp only [wz]; omega)]
            · refine Eq.trans (b := [.row true T.uint32 1 (Ψ .lims w3), .row true T.uint32 1 (Ψ .lims vl), .row true T.uint32 1 _]) rfl ?_
              rw [show (1 : Int) = Ω .ci 1 from rfl, ci_sub (by omega), wrapu64_ci, wrapu32_ci, Nat.mod_eq_of_lt (show G - 1 < 18446744073709551616 by omega), Nat.mod_eq_of_lt (by omega), sset_lims]
          · simp only [decide_eq_false hover, if_neg hover, Nat.add_zero] at hless
            obtain ⟨o1, o2⟩ := guess_right hgq hover hV0
            obtain ⟨w2, hw2⟩ : ∃ l, l = w.take j ++ ln (n + 3) (R - G * nv vl) ++ w.drop (j + (n + 3)) := ⟨_, rfl⟩
            have hround := long_round hwlim (j := j) (m := n + 3) (by omega) (by omega) hqlim hZ0 (by omega) hGl (by rw [← hsplit, ← hR]; exact o1) hinv o2
            rw [← hw2] at hless hround
            refine ⟨_, _, hC2 _ _ _ _ _ (show Good P F.nat_less [.ref 0 1 j (j + (n + 2) + 1 - j), .own 1 1, .d (.i .u64 (Ω .ci G))] [.row true T.uint32 1 (Ψ .lims w), .row true T.uint32 1 (Ψ .lims vl)] _ _ from by rw [hjm]; exact hless), ?_⟩
            refine nx ?_
            refine ⟨ci_nonneg _, by simp only [wz]; omega, by show j < q.length; omega, (j, w2, q.set j G), [1050, 1051, 1052], ⟨by simp only; omega, hround.1, by simp only; rw [hround.2.1]; exact hwlen, hround.2.2.1, by simp only; rw [hround.2.2.2.1]; exact hqlen, hround.2.2.2.2.1, hround.2.2.2.2.2⟩, by simp only; omega, rfl, ?_, ?_⟩
            · refine Eq.trans (b := [.d (.i .i64 (Ω .ci s)), .own 1051 1, .own 1050 1, .d (.i .i64 (Ω .ci vl.length)), .own 1052 1, .d (.i .i64 _)]) rfl ?_
              rw [wrap64 (by simp only [wz]; omega) (by simp only [wz]; omega)]
            · refine Eq.trans (b := [.row true T.uint32 1 (Ψ .lims w2), .row true T.uint32 1 (Ψ .lims vl), .row true T.uint32 1 _]) rfl ?_
              rw [wrapu32_ci, Nat.mod_eq_of_lt hGl, sset_lims]
        · have hr2 : r + v1 < 4294967296 := by have := h; simp only [wz] at this; omega
          refine nx ?_
          refine ⟨(g - 1, r + v1), [1050, 1051, 1052], ⟨hgs, hgq, hr2⟩, by simp only; omega, rfl, rfl, rfl⟩
      · have hsm : g < 4294967296 := by have := h; simp only [wz] at this; omega
        refine nx ?_
        (generalize hq : Ω .lt (Ω .ci r) 4294967296 = q; refine BrG.split (fun h => ?_) (fun h => ?_) <;> subst hq)
        · refine nx ?_
          refine own_lims n v0 i4 hv0 ?_ ?_ ?_
          · exact Nat.le_refl _
          · exact rfl
          refine nx ?_
          refine own_lims (j + n) x0 (by rw [i1]; exact i5) hx0 ?_ ?_ ?_
          · exact Nat.le_refl _
          · exact rfl
          refine nx ?_
          have hgv : g * v0 < 18446744073709551616 := by
            have := Nat.mul_le_mul (show g ≤ 4294967295 by omega) (show v0 ≤ 4294967295 by omega)
            omega
          have hL : Ω .wrap .u64 (Ω .ci g * Ω .wrap .u64 (Ω .ci v0)) = Ω .ci (g * v0) := by
            rw [wrapu64_ci, Nat.mod_eq_of_lt (by omega), ci_mul, wrapu64_ci, Nat.mod_eq_of_lt hgv]
          have hRt : Ω .ior .u64 (Ω .ishl .u64 (Ω .ci r) 32) (Ω .wrap .u64 (Ω .ci x0)) = Ω .ci (r * 4294967296 + x0) := by
            rw [wrapu64_ci, Nat.mod_eq_of_lt (by omega), ishl32, wrapu64_ci, Nat.mod_eq_of_lt (by omega), ior64_ci (by omega) (by omega), or_shl _ l0]
          rw [hL, hRt]
          refine BrG.split (fun h => ?_) (fun h => ?_)
          · have hbig : r * 4294967296 + x0 < g * v0 := by have := h; simp only [wz] at this; omega
            have hRl : R < g * nv vl := kn.down hg hbig
            have hg0 : 0 < g := by
              rcases Nat.eq_zero_or_pos g with c | c
              · subst c; omega
              · exact c
            have hgq : R / nv vl ≤ g - 1 := by
              have := (Nat.div_lt_iff_lt_mul (by omega : 0 < nv vl)).2 hRl
              omega
            refine nx ?_
            refine own_lims (n + 1) v1 i3 hv1 ?_ ?_ ?_
            · exact Nat.le_refl _
            · exact rfl
            refine nx ?_
            have hgm : Ω .wrap .u64 (Ω .ci g - 1) = Ω .ci (g - 1) := by
              rw [show (1 : Int) = Ω .ci 1 from rfl, ci_sub (by omega), wrapu64_ci, Nat.mod_eq_of_lt (by omega)]
            have hgs : (g - 1) * v1 + (r + v1) = T' := by
              obtain ⟨g', rfl⟩ : ∃ g', g = g' + 1 := ⟨g - 1, by omega⟩
              rw [Nat.add_mul] at hg
              simp only [Nat.add_sub_cancel]
              omega
            rw [hgm, hv1w, ci_add, wrapu64_ci, Nat.mod_eq_of_lt (by omega)]
            refine BrG.split (fun h => ?_) (fun h => ?_)
            · have hr2 : 4294967296 ≤ r + v1 := by have := h; simp only [wz] at this; omega
              obtain ⟨hGl, hGV⟩ := kn.broke hgs hr2
              obtain ⟨G, hG⟩ : ∃ G, G = g - 1 := ⟨_, rfl⟩
              rw [← hG] at hGl hGV hgq ⊢
              refine nx ?_
              rw [i1, wrap_succ (by omega)]
              have hwsp : w = w.take j ++ (w.drop j).take (n + 3) ++ w.drop (j + (n + 3)) := by
                rw [List.append_assoc, ← List.drop_drop, List.take_append_drop, List.take_append_drop]
              have hless := less_own (w.take j) ((w.drop j).take (n + 3)) (w.drop (j + (n + 3))) vl G (lim_take (lim_drop hwlim _) _) hvlim (by rw [← hwsp]; omega) (by omega) hGl
              rw [← hwsp, hWl, show (w.take j).length = j by simp; omega, ← hsplit, ← hR] at hless
              have hV0 : 0 < nv vl := by omega
              have hVm : nv vl < 4294967296 ^ (n + 3) := Nat.lt_of_lt_of_le hVlt (B_mono (by omega))
              refine ⟨ci_nonneg _, by simp only [wz]; omega, by simp only [wz]; omega, Int.le_refl _, (by first | exact rfl | exact fun _ => rfl), ?_⟩
              have hjm : j + (n + 2) + 1 - j = n + 3 := by omega
              by_cases hover : R < G * nv vl
              · rw [decide_eq_true hover, if_pos hover] at hless
                obtain ⟨hG0, o1, o2, o3⟩ := guess_over hGV hover hVm
                obtain ⟨w2, hw2⟩ : ∃ l, l = w.take j ++ ln (n + 3) (R + 4294967296 ^ (n + 3) - G * nv vl) ++ w.drop (j + (n + 3)) := ⟨_, rfl⟩
                obtain ⟨w3, hw3⟩ : ∃ l, l = w.take j ++ ln (n + 3) (R + nv vl - G * nv vl) ++ w.drop (j + (n + 3)) := ⟨_, rfl⟩
                rw [← hw2] at hless
                have hw2l : w2.length = w.length := by rw [hw2]; simp [len_ln]; omega
                have hback := back_own (w.take j) (ln (n + 3) (R + 4294967296 ^ (n + 3) - G * nv vl)) (w.drop (j + (n + 3))) vl (lim_ln _ _) hvlim (by rw [← hw2]; omega) (by rw [len_ln]; omega)
                rw [← hw2, len_ln, nv_ln (by omega), o1, show (w.take j).length = j by simp; omega, ← hw3] at hback
                have hround := long_round hwlim (j := j) (m := n + 3) (by omega) (by omega) hqlim hZ0 (by omega) (show G - 1 < 4294967296 by omega) (by rw [← hsplit, ← hR]; exact o2) hinv o3
                rw [← hw3] at hround
                refine ⟨_, _, hC2 _ _ _ _ _ (show Good P F.nat_less [.ref 0 1 j (j + (n + 2) + 1 - j), .own 1 1, .d (.i .u64 (Ω .ci G))] [.row true T.uint32 1 (Ψ .lims w), .row true T.uint32 1 (Ψ .lims vl)] _ _ from by rw [hjm]; exact hless), ?_⟩
                refine nx ?_
                rw [i1, wrap_succ (by omega)]
                refine ⟨ci_nonneg _, by simp only [wz]; omega, by simp only [wz]; omega, Int.le_refl _, (by first | exact rfl | exact fun _ => rfl), ?_⟩
                refine ⟨_, _, hC2 _ _ _ _ _ (show Good P F.nat_back [.ref 0 1 j (j + (n + 2) + 1 - j), .own 1 1] [.row true T.uint32 1 (Ψ .lims w2), .row true T.uint32 1 (Ψ .lims vl)] _ _ from by rw [hjm]; exact hback), ?_⟩
                refine nx ?_
                refine ⟨ci_nonneg _, by simp only [wz]; omega, by show j < q.length; omega, (j, w3, q.set j (G - 1)), [1050, 1051, 1052], ⟨by simp only; omega, hround.1, by simp only; rw [hround.2.1]; exact hwlen, hround.2.2.1, by simp only; rw [hround.2.2.2.1]; exact hqlen, hround.2.2.2.2.1, hround.2.2.2.2.2⟩, by simp only; omega, rfl, ?_, ?_⟩
                · refine Eq.trans (b := [.d (.i .i64 (Ω .ci s)), .own 1051 1, .own 1050 1, .d (.i .i64 (Ω .ci vl.length)), .own 1052 1, .d (.i .i64 _)]) rfl ?_
                  rw [wrap64 (by simp only [wz]; omega) (by simp only [wz]; omega)]
                · refine Eq.trans (b := [.row true T.uint32 1 (Ψ .lims w3), .row true T.uint32 1 (Ψ .lims vl), .row true T.uint32 1 _]) rfl ?_
                  rw [show (1 : Int) = Ω .ci 1 from rfl, ci_sub (by omega), wrapu64_ci, wrapu32_ci, Nat.mod_eq_of_lt (show G - 1 < 18446744073709551616 by omega), Nat.mod_eq_of_lt (by omega), sset_lims]
              · simp only [decide_eq_false hover, if_neg hover, Nat.add_zero] at hless
                obtain ⟨o1, o2⟩ := guess_right hgq hover hV0
                obtain ⟨w2, hw2⟩ : ∃ l, l = w.take j ++ ln (n + 3) (R - G * nv vl) ++ w.drop (j + (n + 3)) := ⟨_, rfl⟩
                have hround := long_round hwlim (j := j) (m := n + 3) (by omega) (by omega) hqlim hZ0 (by omega) hGl (by rw [← hsplit, ← hR]; exact o1) hinv o2
                rw [← hw2] at hless hround
                refine ⟨_, _, hC2 _ _ _ _ _ (show Good P F.nat_less [.ref 0 1 j (j + (n + 2) + 1 - j), .own 1 1, .d (.i .u64 (Ω .ci G))] [.row true T.uint32 1 (Ψ .lims w), .row true T.uint32 1 (Ψ .lims vl)] _ _ from by rw [hjm]; exact hless), ?_⟩
                refine nx ?_
                refine ⟨ci_nonneg _, by simp only [wz]; omega, by show j < q.length; omega, (j, w2, q.set j G), [1050, 1051, 1052], ⟨by simp only; omega, hround.1, by simp only; rw [hround.2.1]; exact hwlen, hround.2.2.1, by simp only; rw [hround.2.2.2.1]; exact hqlen, hround.2.2.2.2.1, hround.2.2.2.2.2⟩, by simp only; omega, rfl, ?_, ?_⟩
                · refine Eq.trans (b := [.d (.i .i64 (Ω .ci s)), .own 1051 1, .own 1050 1, .d (.i .i64 (Ω .ci vl.length)), .own 1052 1, .d (.i .i64 _)]) rfl ?_
                  rw [wrap64 (by simp only [wz]; omega) (by simp only [wz]; omega)]
                · refine Eq.trans (b := [.row true T.uint32 1 (Ψ .lims w2), .row true T.uint32 1 (Ψ .lims vl), .row true T.uint32 1 _]) rfl ?_
                  rw [wrapu32_ci, Nat.mod_eq_of_lt hGl, sset_lims]
            · have hr2 : r + v1 < 4294967296 := by have := h; simp only [wz] at this; omega
              refine nx ?_
              refine ⟨(g - 1, r + v1), [1050, 1051, 1052], ⟨hgs, hgq, hr2⟩, by simp only; omega, rfl, rfl, rfl⟩
          · have hno : g * v0 ≤ r * 4294967296 + x0 := by have := h; simp only [wz] at this; omega
            have hGV := kn.last hg hsm hno
            obtain ⟨G, hG⟩ : ∃ G, G = g := ⟨_, rfl⟩
            have hgq := hge
            have hGl := hsm
            rw [← hG] at hGl hGV hgq ⊢
            refine nx ?_
            rw [i1, wrap_succ (by omega)]
            have hwsp : w = w.take j ++ (w.drop j).take (n + 3) ++ w.drop (j + (n + 3)) := by
              rw [List.append_assoc, ← List.drop_drop, List.take_append_drop, List.take_append_drop]
            have hless := less_own (w.take j) ((w.drop j).take (n + 3)) (w.drop (j + (n + 3))) vl G (lim_take (lim_drop hwlim _) _) hvlim (by rw [← hwsp]; omega) (by omega) hGl
            rw [← hwsp, hWl, show (w.take j).length = j by simp; omega, ← hsplit, ← hR] at hless
            have hV0 : 0 < nv vl := by omega
            have hVm : nv vl < 4294967296 ^ (n + 3) := Nat.lt_of_lt_of_le hVlt (B_mono (by omega))
            refine ⟨ci_nonneg _, by simp only [wz]; omega, by simp only [wz]; omega, Int.le_refl _, (by first | exact rfl | exact fun _ => rfl), ?_⟩
            have hjm : j + (n + 2) + 1 - j = n + 3 := by omega
            by_cases hover : R < G * nv vl
            · rw [decide_eq_true hover, if_pos hover] at hless
              obtain ⟨hG0, o1, o2, o3⟩ := guess_over hGV hover hVm
              obtain ⟨w2, hw2⟩ : ∃ l, l = w.take j ++ ln (n + 3) (R + 4294967296 ^ (n + 3) - G * nv vl) ++ w.drop (j + (n + 3)) := ⟨_, rfl⟩
              obtain ⟨w3, hw3⟩ : ∃ l, l = w.take j ++ ln (n + 3) (R + nv vl - G * nv vl) ++ w.drop (j + (n + 3)) := ⟨_, rfl⟩
              rw [← hw2] at hless
              have hw2l : w2.length = w.length := by rw [hw2]; simp [len_ln]; omega
              have hback := back_own (w.take j) (ln (n + 3) (R + 4294967296 ^ (n + 3) - G * nv vl)) (w.drop (j + (n + 3))) vl (lim_ln _ _) hvlim (by rw [← hw2]; omega) (by rw [len_ln]; omega)
              rw [← hw2, len_ln, nv_ln (by omega), o1, show (w.take j).length = j by simp; omega, ← hw3] at hback
              have hround := long_round hwlim (j := j) (m := n + 3) (by omega) (by omega) hqlim hZ0 (by omega) (show G - 1 < 4294967296 by omega) (by rw [← hsplit, ← hR]; exact o2) hinv o3
              rw [← hw3] at hround
              refine ⟨_, _, hC2 _ _ _ _ _ (show Good P F.nat_less [.ref 0 1 j (j + (n + 2) + 1 - j), .own 1 1, .d (.i .u64 (Ω .ci G))] [.row true T.uint32 1 (Ψ .lims w), .row true T.uint32 1 (Ψ .lims vl)] _ _ from by rw [hjm]; exact hless), ?_⟩
              refine nx ?_
              rw [i1, wrap_succ (by omega)]
              refine ⟨ci_nonneg _, by simp only [wz]; omega, by simp only [wz]; omega, Int.le_refl _, (by first | exact rfl | exact fun _ => rfl), ?_⟩
              refine ⟨_, _, hC2 _ _ _ _ _ (show Good P F.nat_back [.ref 0 1 j (j + (n + 2) + 1 - j), .own 1 1] [.row true T.uint32 1 (Ψ .lims w2), .row true T.uint32 1 (Ψ .lims vl)] _ _ from by rw [hjm]; exact hback), ?_⟩
              refine nx ?_
              refine ⟨ci_nonneg _, by simp only [wz]; omega, by show j < q.length; omega, (j, w3, q.set j (G - 1)), [1050, 1051, 1052], ⟨by simp only; omega, hround.1, by simp only; rw [hround.2.1]; exact hwlen, hround.2.2.1, by simp only; rw [hround.2.2.2.1]; exact hqlen, hround.2.2.2.2.1, hround.2.2.2.2.2⟩, by simp only; omega, rfl, ?_, ?_⟩
              · refine Eq.trans (b := [.d (.i .i64 (Ω .ci s)), .own 1051 1, .own 1050 1, .d (.i .i64 (Ω .ci vl.length)), .own 1052 1, .d (.i .i64 _)]) rfl ?_
                rw [wrap64 (by simp only [wz]; omega) (by simp only [wz]; omega)]
              · refine Eq.trans (b := [.row true T.uint32 1 (Ψ .lims w3), .row true T.uint32 1 (Ψ .lims vl), .row true T.uint32 1 _]) rfl ?_
                rw [show (1 : Int) = Ω .ci 1 from rfl, ci_sub (by omega), wrapu64_ci, wrapu32_ci, Nat.mod_eq_of_lt (show G - 1 < 18446744073709551616 by omega), Nat.mod_eq_of_lt (by omega), sset_lims]
            · simp only [decide_eq_false hover, if_neg hover, Nat.add_zero] at hless
              obtain ⟨o1, o2⟩ := guess_right hgq hover hV0
              obtain ⟨w2, hw2⟩ : ∃ l, l = w.take j ++ ln (n + 3) (R - G * nv vl) ++ w.drop (j + (n + 3)) := ⟨_, rfl⟩
              have hround := long_round hwlim (j := j) (m := n + 3) (by omega) (by omega) hqlim hZ0 (by omega) hGl (by rw [← hsplit, ← hR]; exact o1) hinv o2
              rw [← hw2] at hless hround
              refine ⟨_, _, hC2 _ _ _ _ _ (show Good P F.nat_less [.ref 0 1 j (j + (n + 2) + 1 - j), .own 1 1, .d (.i .u64 (Ω .ci G))] [.row true T.uint32 1 (Ψ .lims w), .row true T.uint32 1 (Ψ .lims vl)] _ _ from by rw [hjm]; exact hless), ?_⟩
              refine nx ?_
              refine ⟨ci_nonneg _, by simp only [wz]; omega, by show j < q.length; omega, (j, w2, q.set j G), [1050, 1051, 1052], ⟨by simp only; omega, hround.1, by simp only; rw [hround.2.1]; exact hwlen, hround.2.2.1, by simp only; rw [hround.2.2.2.1]; exact hqlen, hround.2.2.2.2.1, hround.2.2.2.2.2⟩, by simp only; omega, rfl, ?_, ?_⟩
              · refine Eq.trans (b := [.d (.i .i64 (Ω .ci s)), .own 1051 1, .own 1050 1, .d (.i .i64 (Ω .ci vl.length)), .own 1052 1, .d (.i .i64 _)]) rfl ?_
                rw [wrap64 (by simp only [wz]; omega) (by simp only [wz]; omega)]
              · refine Eq.trans (b := [.row true T.uint32 1 (Ψ .lims w2), .row true T.uint32 1 (Ψ .lims vl), .row true T.uint32 1 _]) rfl ?_
                rw [wrapu32_ci, Nat.mod_eq_of_lt hGl, sset_lims]
        · exfalso
          have := h; simp only [wz] at this; omega
    · rw [wrap64 (by simp only [wz]; omega) (by simp only [wz]; omega)] at h
      have hk0 : k = 0 := by have := h; simp only [wz] at this; omega
      subst hk0
      simp only [Nat.pow_zero, Nat.one_mul, List.drop_zero] at hinv hrem
      have hVlt : nv vl < 4294967296 ^ (n + 2) := by have := nv_lt hvlim; rwa [hvlen] at this
      have hp2 : 0 < 2 ^ s := Nat.pow_pos (by omega)
      obtain ⟨f1, f2⟩ := divmod_unique (Q := nv q) (b := nv vl) (r := nv w) (X := nv a * 2 ^ s) (by rw [Nat.mul_comm]; omega) hrem
      rw [hvn, Nat.mul_div_mul_right _ _ hp2] at f1
      rw [hvn, Nat.mul_mod_mul_right] at f2
      have hwt : nv (w.take (n + 2)) = nv w := by
        have h1 := nv_split w (n + 2) (by omega)
        rcases Nat.eq_zero_or_pos (nv (w.drop (n + 2))) with c | c
        · rw [c] at h1; omega
        · have := Nat.mul_le_mul_left (4294967296 ^ (n + 2)) c
          omega
      have hg1 := trim_good q hqlim (by omega)
      have hg2 := shr_good (w.take (n + 2)) s ⟨lim_take hwlim _, by simp; omega⟩ hs32
      rw [← f1] at hg1
      rw [hwt, ← f2, Nat.mul_div_cancel _ hp2] at hg2
      refine nx ?_
      refine ⟨_, hC _ _ _ hg1, ?_⟩
      refine nx ?_
      refine ⟨ci_nonneg _, by simp only [wz]; omega, Int.le_refl _, (by first | exact rfl | exact fun _ => rfl), ?_⟩
      rw [ssub_lims, List.drop_zero, Nat.sub_zero, show Ω .leb (Ω .nadd 0 (Ω .nsub vl.length 0)) w.length = true from decide_eq_true (by show 0 + (vl.length - 0) ≤ w.length; omega), hvlen]
      obtain ⟨w5, hw5⟩ : ∃ l, l = w.take (n + 2) := ⟨_, rfl⟩
      rw [← hw5] at hg2 ⊢
      refine nx ?_
      refine ⟨_, hC _ _ _ hg2, ?_⟩
      exact nx trivial
end Go.K.S
end
section
namespace Go.K.S
open Go Go.K
set_option maxHeartbeats 1000000
theorem cmp_good (a b : List Nat) (ha : N a) (hb : N b) : Good P F.nat_Cmp [.d (dN Ψ a), .d (dN Ψ b)] [] (.d (.i .i64 (Ψ .cmpI (nv a) (nv b)))) [] := by
  refine G.nat_Cmp fun C C2 hC hC2 => ?_
  refine nx ?_
  refine ⟨_, hC _ _ _ (trim_good a ha.lim ha.len), ?_⟩
  refine nx ?_
  refine ⟨_, hC _ _ _ (trim_good b hb.lim hb.len), ?_⟩
  have hna := ha.cn
  have hnb := hb.cn
  have hlt1 : (Ψ .cn (nv a)).length < (Ψ .cn (nv b)).length → nv a < nv b := cn_len_lt
  have hlt2 : (Ψ .cn (nv b)).length < (Ψ .cn (nv a)).length → nv b < nv a := cn_len_lt
  have hva := nv_cn (nv a)
  have hvb := nv_cn (nv b)
  generalize Ψ .cn (nv a) = x at *
  generalize Ψ .cn (nv b) = y at *
  have hxl := hna.len
  have hyl := hnb.len
  refine nx ?_
  refine BrG.split (fun h => ?_) (fun h => ?_)
  · have hne : x.length ≠ y.length := by have := h; simp only [wz] at this; omega
    refine nx ?_
    refine BrG.split (fun h => ?_) (fun h => ?_)
    · have := h
      have hl : x.length < y.length := by simp only [wz] at this; omega
      refine nx ?_
      have := hlt1 hl
      simp only [p_cmpI, this, if_true]
    · have := h
      have hl : y.length < x.length := by simp only [wz] at this; omega
      refine nx ?_
      have := hlt2 hl
      simp only [p_cmpI, this, if_true, if_neg (show ¬ nv a < nv b by omega)]
  · have he : x.length = y.length := by have := h; simp only [wz] at this; omega
    refine nx ?_
    refine LoopG.intro (σ := Nat) [0, 1, 5] [] (fun k => [.d (dN Ψ x), .d (dN Ψ y), .d (.i .i64 (Ω .wrap .i64 (Ω .ci k - 1)))]) (fun _ => []) (fun k => k ≤ x.length ∧ x.drop k = y.drop k) (fun k => k) x.length []
      ⟨Nat.le_refl _, by rw [List.drop_length, he, List.drop_length]⟩ ⟨rfl, ?_, rfl⟩ ?_
    · rfl
    rintro k ⟨hk, hd⟩
    refine nx ?_
    refine BrG.split (fun h => ?_) (fun h => ?_)
    · rw [wrap64 (by simp only [wz]; omega) (by simp only [wz]; omega)] at h
      have hk0 : 0 < k := by simp only [wz] at h; omega
      have hk1 : Ω .wrap .i64 (Ω .ci k - 1) = Ω .ci (k - 1) := wrap_pred hk0 (by omega)
      obtain ⟨u, hu⟩ : ∃ u, x[k - 1]? = some u := ⟨_, List.getElem?_eq_getElem (by omega)⟩
      obtain ⟨v, hv⟩ : ∃ v, y[k - 1]? = some v := ⟨_, List.getElem?_eq_getElem (by omega)⟩
      have hkk : k - 1 + 1 = k := by omega
      refine nx ?_
      refine idx_lims (k - 1) u hk1 hu rfl ?_
      refine nx ?_
      refine idx_lims (k - 1) v hk1 hv rfl ?_
      refine nx ?_
      refine BrG.split (fun h => ?_) (fun h => ?_)
      · have := h
        have huv : u < v := by simp only [wz] at this; omega
        have := nv_lt_of hna.lim hu hv (by rw [hkk]; exact hd) huv
        rw [hva, hvb] at this
        refine nx ?_
        simp only [p_cmpI, this, if_true]
      · have h1 := h
        refine nx ?_
        refine idx_lims (k - 1) u hk1 hu rfl ?_
        refine nx ?_
        refine idx_lims (k - 1) v hk1 hv rfl ?_
        refine nx ?_
        refine BrG.split (fun h => ?_) (fun h => ?_)
        · have := h
          have huv : v < u := by simp only [wz] at this; omega
          have := nv_lt_of hnb.lim hv hu (by rw [hkk]; exact hd.symm) huv
          rw [hva, hvb] at this
          refine nx ?_
          simp only [p_cmpI, this, if_true, if_neg (show ¬ nv a < nv b by omega)]
        · have h2 := h
          have huv : u = v := by simp only [wz] at h1 h2; omega
          refine nx ?_
          refine ⟨k - 1, [], ⟨by omega, ?_⟩, by omega, rfl, ?_, rfl⟩
          · obtain ⟨q1, rfl⟩ := List.getElem?_eq_some_iff.1 hu
            obtain ⟨q2, e⟩ := List.getElem?_eq_some_iff.1 hv
            rw [List.drop_eq_getElem_cons q1, List.drop_eq_getElem_cons q2, e, hkk, huv, hd]
          · refine Eq.trans (b := [V.d (dN Ψ x), V.d (dN Ψ y), V.d (.i .i64 _)]) rfl ?_
            rw [hk1]
    · rw [wrap64 (by simp only [wz]; omega) (by simp only [wz]; omega)] at h
      have hk0 : k = 0 := by simp only [wz] at h; omega
      subst hk0
      have : x = y := by simpa using hd
      subst this
      have hab : nv a = nv b := by omega
      refine nx ?_
      rw [hab]
      simp only [p_cmpI, if_neg (Nat.lt_irrefl _)]
end Go.K.S
end
section
namespace Go.K.S
open Go Go.K
set_option maxHeartbeats 4000000
set_option maxRecDepth 20000
theorem divmod_good (a b : List Nat) (ha : N a) (hb : N b) (hal : a.length < 549755813888) (hb0 : nv b ≠ 0) :
    Good P F.nat_DivMod [.d (dN Ψ a), .d (dN Ψ b)] [] (.tup [.d (dN Ψ (Ψ .cn (nv a / nv b))), .d (dN Ψ (Ψ .cn (nv a % nv b))), .d (.b true)]) [] := by
  refine G.nat_DivMod fun C C2 hC hC2 => ?_
  refine nx ?_
  refine ⟨_, hC _ _ _ (trim_good a ha.lim ha.len), ?_⟩
  refine nx ?_
  refine ⟨_, hC _ _ _ (trim_good b hb.lim hb.len), ?_⟩
  have hna := ha.cn
  have hnb := hb.cn
  have hva := nv_cn (nv a)
  have hvb := nv_cn (nv b)
  have hcb := cano_cn (nv b)
  have hla : (Ψ .cn (nv a)).length ≤ a.length := len_cn_nv ha.lim
  have hlb : nv b ≤ nv a → (Ψ .cn (nv b)).length ≤ (Ψ .cn (nv a)).length := fun h => by
    rcases Nat.lt_or_ge (Ψ .cn (nv a)).length (Ψ .cn (nv b)).length with c | c
    · have := cn_len_lt c; omega
    · exact c
  generalize Ψ .cn (nv a) = x at *
  generalize Ψ .cn (nv b) = y at *
  have hyl := hnb.len
  refine nx ?_
  refine BrG.split (fun h => ?_) (fun h => ?_)
  · exfalso
    have h0 : y.length = 0 := by have := h; simp only [wz] at this ⊢; omega
    have : y = [] := List.eq_nil_of_length_eq_zero h0
    subst this
    exact hb0 hvb.symm
  · have h0 : y.length ≠ 0 := by have := h; simp only [wz] at this ⊢; omega
    refine nx ?_
    refine ⟨_, hC _ _ _ (cmp_good x y hna hnb), ?_⟩
    rw [hva, hvb]
    refine nx ?_
    refine BrG.split (fun h => ?_) (fun h => ?_)
    · have hlt : nv a < nv b := cmpI_neg.1 (of_decide_eq_true h)
      refine nx ?_
      have hg := norm_good x hna
      rw [hva] at hg
      refine ⟨_, hC _ _ _ hg, ?_⟩
      rw [Nat.div_eq_of_lt hlt, Nat.mod_eq_of_lt hlt, cn_zero]
      refine nx ?_
      rfl
    · have hge : nv b ≤ nv a := by
        have := mt (cmpI_neg (m := nv a) (n := nv b)).2 (of_decide_eq_false h)
        omega
      have hlen := hlb hge
      refine nx ?_
      refine BrG.split (fun h => ?_) (fun h => ?_)
      · have h1 : y.length = 1 := by have := h; simp only [wz] at this; omega
        obtain ⟨d, rfl⟩ := List.length_eq_one_iff.1 h1
        have hd : nv b = d := by rw [← hvb]; simp
        have hdl : d < 4294967296 := (lim_cons.1 hnb.lim).1
        refine nx ?_
        refine (idx_lims (l := [d]) 0 d rfl rfl rfl ?_).2
        refine nx ?_
        have hg := small_good x d hna (by omega) hdl
        rw [hva, ← hd] at hg
        rw [← hd]
        refine nx ?_
        refine ⟨_, hC _ _ _ hg, ?_⟩
        exact nx trivial
      · have h1 : y.length ≠ 1 := by have := h; simp only [wz] at this; omega
        refine nx ?_
        have hg := long_good x y hna hnb hcb (by omega) (by omega) (by omega)
        rw [hva, hvb] at hg
        refine ⟨_, hC _ _ _ hg, ?_⟩
        exact nx trivial
end Go.K.S
end
section
namespace Go.K.S
open Go Go.K
set_option maxHeartbeats 4000000
set_option maxRecDepth 20000
theorem gcd_good (a b : List Nat) (ha : N a) (hb : N b) (hal : a.length < 549755813888) (hbl : b.length < 549755813888) :
    Good P F.root_Gcd [.d (dN Ψ a), .d (dN Ψ b)] [] (.d (dN Ψ (Ψ .cn ((nv a).gcd (nv b))))) [] := by
  refine G.root_Gcd fun C C2 hC hC2 => ?_
  refine nx ?_
  refine ⟨_, hC _ _ _ (norm_good a ha), ?_⟩
  refine nx ?_
  refine ⟨_, hC _ _ _ (norm_good b hb), ?_⟩
  refine nx ?_
  obtain ⟨m, hm⟩ : ∃ m, m = 549755813887 := ⟨_, rfl⟩
  have hM : nv a < 4294967296 ^ m := Nat.lt_of_lt_of_le (nv_lt ha.lim) (B_mono (by omega))
  have hM' : nv b < 4294967296 ^ m := Nat.lt_of_lt_of_le (nv_lt hb.lim) (B_mono (by omega))
  have hN : ∀ n, n < 4294967296 ^ m → N (Ψ .cn n) ∧ (Ψ .cn n).length ≤ m := fun n h => ⟨⟨lim_cn _, by have := len_cn.2 h; omega⟩, len_cn.2 h⟩
  refine LoopG.intro (σ := Nat × Nat) [0, 1] [] (fun s => [.d (dN Ψ (Ψ .cn s.1)), .d (dN Ψ (Ψ .cn s.2))]) (fun _ => [])
    (fun s => s.1 < 4294967296 ^ m ∧ s.2 < 4294967296 ^ m ∧ s.1.gcd s.2 = (nv a).gcd (nv b)) (fun s => s.2) (nv a, nv b) [] ⟨hM, hM', rfl⟩ ⟨rfl, rfl, rfl⟩ ?_
  rintro ⟨x, y⟩ ⟨hx, hy, he⟩
  simp only at hx hy he
  refine nx ?_
  refine BrG.split (fun h => ?_) (fun h => ?_)
  · have hy0 : y ≠ 0 := by
      rintro rfl
      rw [cn_zero] at h
      simp [wz] at h
    have hg := divmod_good (Ψ .cn x) (Ψ .cn y) (hN x hx).1 (hN y hy).1 (by have := (hN x hx).2; omega) (by rw [nv_cn]; exact hy0)
    rw [nv_cn, nv_cn] at hg
    refine nx ?_
    refine ⟨_, hC _ _ _ hg, ?_⟩
    refine nx ?_
    have hlt := Nat.mod_lt x (Nat.pos_of_ne_zero hy0)
    refine ⟨(y, x % y), [], ⟨hy, by simp only; omega, ?_⟩, hlt, rfl, rfl, rfl⟩
    simp only
    rw [← he, Nat.gcd_comm y, ← Nat.gcd_rec, Nat.gcd_comm]
  · have hy0 : y = 0 := by
      have h1 : (Ψ .cn y).length = 0 := by
        have := of_decide_eq_false h
        simp only [wz] at this
        omega
      exact cn_eq_nil.1 (List.eq_nil_of_length_eq_zero h1)
    subst hy0
    rw [Nat.gcd_zero_right] at he
    subst he
    exact nx trivial
end Go.K.S
end
section
namespace Go.K
theorem cn_gt_one {g : Nat} (hg : g ≠ 0) : (1 < (Ψ .cn g).length ∨ ∃ v, (Ψ .cn g)[0]? = some v ∧ (Ψ .cn g).length = 1 ∧ v = g) := by
  obtain ⟨x, m, hl, hx, h0, hxl, h1, h2, h3⟩ := cn_top hg
  rcases Nat.eq_zero_or_pos m with c | c
  · subst c
    refine .inr ⟨x, hx, by omega, ?_⟩
    simp at h3
    exact h3.symm
  · exact .inl (by omega)
end Go.K
namespace Go.K.S
open Go Go.K
set_option maxHeartbeats 4000000
set_option maxRecDepth 20000
theorem one_good : Good P F.rat_one [] [] (.d (dN Ψ [1])) [] := by
  refine G.rat_one fun C C2 hC hC2 => ?_
  refine nx ?_
  rfl
theorem made_good (b : Bool) (x y : List Nat) (hx : N x) (hy : N y) (hxl : x.length < 549755813888) (hyl : y.length < 549755813888) :
    Good P F.rat_made [.d (.b b), .d (dN Ψ x), .d (dN Ψ y)] [] (.d (.agg (dR Ψ (Ψ .cr (mkRat (sg b (nv x)) (nv y)))))) [] := by
  refine G.rat_made fun C C2 hC hC2 => ?_
  have g1 := norm_good x hx
  have g2 := norm_good y hy
  have hnx := hx.cn
  have hny := hy.cn
  have hlx := len_cn_nv hx.lim
  have hly := len_cn_nv hy.lim
  generalize nv x = m at *
  generalize nv y = n at *
  obtain ⟨R, hR⟩ : ∃ R, R = Ψ .cr (mkRat (sg b m) n) := ⟨_, rfl⟩
  rw [← hR]
  have hz : m = 0 ∨ n = 0 → R = ⟨false, [], [1]⟩ := fun h => by
    rw [hR, ← cr_zero]
    rcases h with rfl | rfl
    · rw [mk_zero_num]
    · rw [mk_zero_den]
  refine nx ?_
  refine ⟨_, hC _ _ _ g1, ?_⟩
  refine nx ?_
  refine ⟨_, hC _ _ _ g2, ?_⟩
  refine nx ?_
  refine BrG.split (fun h => ?_) (fun h => ?_)
  · have h0 : m = 0 := cn_eq_nil.1 (List.eq_nil_of_length_eq_zero (by have := h; simp only [wz] at this ⊢; omega))
    have := hz (.inl h0)
    subst this
    refine nx ?_
    refine ⟨_, hC _ _ _ one_good, ?_⟩
    refine nx ?_
    rfl
  · have h0 : m ≠ 0 := fun q => by subst q; rw [cn_zero] at h; simp [wz] at h
    refine nx ?_
    refine BrG.split (fun h => ?_) (fun h => ?_)
    · have h0 : n = 0 := cn_eq_nil.1 (List.eq_nil_of_length_eq_zero (by have := h; simp only [wz] at this ⊢; omega))
      have := hz (.inr h0)
      subst this
      refine nx ?_
      refine ⟨_, hC _ _ _ one_good, ?_⟩
      refine nx ?_
      rfl
    · have h1 : n ≠ 0 := fun q => by subst q; rw [cn_zero] at h; simp [wz] at h
      have g3 := gcd_good (Ψ .cn m) (Ψ .cn n) hnx hny (by omega) (by omega)
      rw [nv_cn, nv_cn] at g3
      have hg0 : m.gcd n ≠ 0 := Nat.gcd_ne_zero_left h0
      have hcr := cr_mk (b := b) h0 h1
      rw [← hR] at hcr
      obtain ⟨g, hg⟩ : ∃ g, g = m.gcd n := ⟨_, rfl⟩
      have hgl : (Ψ .cn g).length ≤ (Ψ .cn m).length := len_cn_eq (by rw [hg]; exact Nat.gcd_le_left n (Nat.pos_of_ne_zero h0))
      rw [← hg] at g3 hg0 hcr
      have g4 := divmod_good (Ψ .cn m) (Ψ .cn g) hnx ⟨lim_cn _, by have := hnx.len; omega⟩ (by omega) (by rw [nv_cn]; exact hg0)
      have g5 := divmod_good (Ψ .cn n) (Ψ .cn g) hny ⟨lim_cn _, by have := hnx.len; omega⟩ (by omega) (by rw [nv_cn]; exact hg0)
      rw [nv_cn, nv_cn] at g4 g5
      refine nx ?_
      refine ⟨_, hC _ _ _ g3, ?_⟩
      refine nx ?_
      refine BrG.split (fun h => ?_) (fun h => ?_)
      · refine nx ?_
        refine ⟨_, hC _ _ _ g4, ?_⟩
        refine nx ?_
        refine ⟨_, hC _ _ _ g5, ?_⟩
        subst hcr
        exact nx trivial
      · have hle : (Ψ .cn g).length = 1 := by
          have := h; simp only [wz] at this
          have h3 : (Ψ .cn g).length ≠ 0 := fun q => hg0 (cn_eq_nil.1 (List.eq_nil_of_length_eq_zero q))
          omega
        obtain ⟨v, hv, _, hvg⟩ := (cn_gt_one hg0).resolve_left (by omega)
        refine nx ?_
        refine (idx_lims (l := Ψ .cn g) 0 v rfl hv rfl ?_).2
        refine nx ?_
        refine BrG.split (fun h => ?_) (fun h => ?_)
        · refine nx ?_
          refine ⟨_, hC _ _ _ g4, ?_⟩
          refine nx ?_
          refine ⟨_, hC _ _ _ g5, ?_⟩
          subst hcr
          exact nx trivial
        · have hg1 : g = 1 := by
            have := h; simp only [wz] at this
            omega
          subst hg1
          rw [Nat.div_one, Nat.div_one] at hcr
          subst hcr
          exact nx trivial
theorem read_good (r : RL) {k : Nat} (h : Rn k r) (hk : k < 549755813888) : Good P F.rat_Read [.d (.agg (dR Ψ r))] [] (.d (.agg (dR Ψ (Ψ .cr (rv r))))) [] := by
  refine G.rat_Read fun C C2 hC hC2 => ?_
  have g := made_good r.neg r.num r.den ⟨h.ln, by have := h.kn; omega⟩ ⟨h.ld, by have := h.kd; omega⟩ (by have := h.kn; omega) (by have := h.kd; omega)
  rw [← rv_mk] at g
  obtain ⟨b, x, y⟩ := r
  obtain ⟨R, hR⟩ : ∃ R, R = Ψ .cr (rv ⟨b, x, y⟩) := ⟨_, rfl⟩
  simp only at g
  rw [← hR] at g ⊢
  refine nx ?_
  refine ⟨_, hC _ _ _ g, ?_⟩
  exact nx trivial
end Go.K.S
end
section
namespace Go.K.S
open Go Go.K
set_option maxHeartbeats 1000000
theorem add_good (a b : List Nat) (ha : N a) (hb : N b) (hal : a.length < 549755813888) (hbl : b.length < 549755813888) : Good P F.nat_Add [.d (dN Ψ a), .d (dN Ψ b)] [] (.d (dN Ψ (Ψ .cn (nv a + nv b)))) [] := by
  refine G.nat_Add fun C C2 hC hC2 => ?_
  refine nx ?_
  refine ⟨_, hC _ _ _ (trim_good a ha.lim ha.len), ?_⟩
  refine nx ?_
  refine ⟨_, hC _ _ _ (trim_good b hb.lim hb.len), ?_⟩
  have hna := ha.cn.lim
  have hnb := hb.cn.lim
  have hal := Nat.lt_of_le_of_lt (len_cn_nv ha.lim) hal
  have hbl := Nat.lt_of_le_of_lt (len_cn_nv hb.lim) hbl
  have hva := nv_cn (nv a)
  have hvb := nv_cn (nv b)
  generalize Ψ .cn (nv a) = x at *
  generalize Ψ .cn (nv b) = y at *
  refine nx ?_
  refine BrG.split (fun h => ?_) (fun h => ?_)
  focus
    have hlt : x.length < y.length := by have := h; simp only [wz] at this; omega
    refine nx ?_
    obtain ⟨p, hp⟩ : ∃ p, p = y := ⟨_, rfl⟩
    obtain ⟨q, hq⟩ : ∃ q, q = x := ⟨_, rfl⟩
    subst hp
    subst hq
    have hs : nv p + nv q = nv a + nv b := by omega
    have hlen : q.length ≤ p.length := by omega
    have hpl : p.length < 549755813888 := hbl
    have hpn : lim p := hnb
    have hqn : lim q := hna
    clear hlt h hva hvb hna hnb hal hbl
  rotate_left
  focus
    have hlt : y.length ≤ x.length := by have := h; simp only [wz] at this; omega
    refine nx ?_
    obtain ⟨p, hp⟩ : ∃ p, p = x := ⟨_, rfl⟩
    obtain ⟨q, hq⟩ : ∃ q, q = y := ⟨_, rfl⟩
    subst hp
    subst hq
    have hs : nv p + nv q = nv a + nv b := by omega
    have hlen : q.length ≤ p.length := by omega
    have hpl : p.length < 549755813888 := hal
    have hpn : lim p := hna
    have hqn : lim q := hnb
    clear hlt h hva hvb hna hnb hal hbl
  all_goals
    have hw : Ω .wrap .i64 (Ω .ci p.length + 1) = Ω .ci (p.length + 1) := wrap_succ (by omega)
    rw [hw]
    refine ⟨ci_nonneg _, by simp only [wz]; omega, by simp only [wz]; omega, ?_⟩
    refine LoopG.intro (σ := Nat × List Nat × Nat) [1, 5, 6, 26, 27, 28] [1050]
      (fun s => [.d (dN Ψ q), .own 1050 1, .d (.i .u32 (Ω .ci s.2.2)), .d (dN Ψ p), .d (.i .i64 (Ω .ci p.length)), .d (.i .i64 (Ω .ci s.1))])
      (fun s => [.row true T.uint32 1 (Ψ .lims s.2.1)])
      (fun s => s.1 ≤ p.length ∧ s.2.1.length = s.1 ∧ lim s.2.1 ∧ s.2.2 ≤ 1 ∧ nv s.2.1 + 4294967296 ^ s.1 * s.2.2 = nv (p.take s.1) + nv (q.take s.1))
      (fun s => p.length - s.1) (0, [], 0) [1403] ⟨Nat.zero_le _, rfl, lim_nil, Nat.zero_le _, by simp⟩ ⟨rfl, rfl, rfl⟩ ?_
    rintro ⟨i, z, c⟩ ⟨hi, hzl, hzn, hc, he⟩
    simp only at hi hzl hzn hc he
    refine nx ?_
    refine BrG.split (fun h => ?_) (fun h => ?_)
    · have hi2 : i < p.length := by have := h; simp only [wz] at this; omega
      obtain ⟨u, hu⟩ : ∃ u, p[i]? = some u := ⟨_, List.getElem?_eq_getElem hi2⟩
      have hul := lim_get hpn hu
      have hud : p.getD i 0 = u := by simp [List.getD, hu]
      refine nx ?_
      refine idx_lims i u rfl hu rfl ?_
      refine nx ?_
      have hvl := getD_lt hqn i
      have fin : ∀ v, v = q.getD i 0 → ((4294967296 ^ (i + 1) = 4294967296 ^ i * 4294967296) ∧ (i + 1 ≤ p.length ∧ (z ++ [(u + v + c) % 4294967296]).length = i + 1 ∧ lim (z ++ [(u + v + c) % 4294967296]) ∧ (u + v + c) / 4294967296 ≤ 1 ∧
          nv (z ++ [(u + v + c) % 4294967296]) + 4294967296 ^ (i + 1) * ((u + v + c) / 4294967296) = nv (p.take (i + 1)) + nv (q.take (i + 1)))) := fun v hv => by
        refine ⟨Nat.pow_succ _ _, hi2, by simp [hzl], lim_append.2 ⟨hzn, by simp [lim_cons, lim_nil]; omega⟩, by omega, ?_⟩
        rw [nv_snoc, hzl, nv_take_succ', nv_take_succ', hud, ← hv, Nat.pow_succ]
        exact add_step he
      refine nx ?_
      refine BrG.split (fun h => ?_) (fun h => ?_)
      · have hi3 : i < q.length := by have := h; simp only [wz] at this; omega
        obtain ⟨v, hv⟩ : ∃ v, q[i]? = some v := ⟨_, List.getElem?_eq_getElem hi3⟩
        have hvd : q.getD i 0 = v := by simp [List.getD, hv]
        rw [hvd] at hvl
        refine nx ?_
        refine idx_lims i v rfl hv rfl ?_
        refine nx ?_
        refine ⟨_, hC _ _ _ (add32_good u v c hul hvl hc), ?_⟩
        refine nx ?_
        refine ⟨cells_one _ _, (by simp only [wz]; omega), (i + 1, z ++ [(u + v + c) % 4294967296], (u + v + c) / 4294967296), [2403], (fin v hvd.symm).2, by simp only; omega, rfl, ?_, ?_⟩
        · refine Eq.trans (b := [.d (dN Ψ q), .own 1050 1, .d (.i .u32 (Ω .ci _)), .d (dN Ψ p), .d (.i .i64 (Ω .ci p.length)), .d (.i .i64 _)]) rfl ?_
          rw [wrap_succ (by omega)]
        · refine Eq.trans (b := [.row true T.uint32 1 _]) rfl ?_
          rw [scat_snoc]
      · have hi3 : q.length ≤ i := by have := h; simp only [wz] at this; omega
        have hvd : q.getD i 0 = 0 := by simp [List.getD, hi3]
        refine nx ?_
        refine ⟨_, hC _ _ _ (add32_good u 0 c hul (by omega) hc), ?_⟩
        refine nx ?_
        refine ⟨cells_one _ _, (by simp only [wz]; omega), (i + 1, z ++ [(u + 0 + c) % 4294967296], (u + 0 + c) / 4294967296), [2403], (fin 0 hvd.symm).2, by simp only; omega, rfl, ?_, ?_⟩
        · refine Eq.trans (b := [.d (dN Ψ q), .own 1050 1, .d (.i .u32 (Ω .ci _)), .d (dN Ψ p), .d (.i .i64 (Ω .ci p.length)), .d (.i .i64 _)]) rfl ?_
          rw [wrap_succ (by omega)]
        · refine Eq.trans (b := [.row true T.uint32 1 _]) rfl ?_
          rw [scat_snoc]
    · have hi2 : i = p.length := by have := h; simp only [wz] at this; omega
      subst hi2
      rw [List.take_length, List.take_of_length_le hlen, hs] at he
      have hg := trim_good (z ++ [c]) (lim_append.2 ⟨hzn, by simp [lim_cons, lim_nil]; omega⟩) (by simp; omega)
      rw [nv_snoc, hzl, he] at hg
      refine nx ?_
      refine ⟨cells_one _ _, (by simp only [wz]; omega), ?_⟩
      rw [scat_snoc]
      refine nx ?_
      refine ⟨_, hC _ _ _ hg, ?_⟩
      exact nx trivial
end Go.K.S
namespace Go.K.S
open Go Go.K
set_option maxHeartbeats 1000000
theorem sub_good_lt (a b : List Nat) (ha : N a) (hb : N b) (hlt : nv a < nv b) : Good P F.nat_Sub [.d (dN Ψ a), .d (dN Ψ b)] [] (.tup [.d (dN Ψ []), .d (.b false)]) [] := by
  refine G.nat_Sub fun C C2 hC hC2 => ?_
  refine nx ?_
  refine ⟨_, hC _ _ _ (cmp_good a b ha hb), ?_⟩
  refine nx ?_
  refine BrG.split (fun h => ?_) (fun h => ?_)
  · refine nx ?_
    rfl
  · exact absurd (cmpI_neg.2 hlt) (of_decide_eq_false h)
theorem sub_good (a b : List Nat) (ha : N a) (hb : N b) (hge : nv b ≤ nv a) : Good P F.nat_Sub [.d (dN Ψ a), .d (dN Ψ b)] [] (.tup [.d (dN Ψ (Ψ .cn (nv a - nv b))), .d (.b true)]) [] := by
  refine G.nat_Sub fun C C2 hC hC2 => ?_
  refine nx ?_
  refine ⟨_, hC _ _ _ (cmp_good a b ha hb), ?_⟩
  refine nx ?_
  refine BrG.split (fun h => ?_) (fun h => ?_)
  · have := cmpI_neg.1 (of_decide_eq_true h); omega
  refine nx ?_
  refine ⟨_, hC _ _ _ (trim_good a ha.lim ha.len), ?_⟩
  refine nx ?_
  refine ⟨_, hC _ _ _ (trim_good b hb.lim hb.len), ?_⟩
  have hpn := ha.cn.lim
  have hqn := hb.cn.lim
  have hpl := ha.cn.len
  have hlen : (Ψ .cn (nv b)).length ≤ (Ψ .cn (nv a)).length := by
    rcases Nat.lt_or_ge (Ψ .cn (nv a)).length (Ψ .cn (nv b)).length with q | q
    · have := cn_len_lt q; omega
    · exact q
  have hva := nv_cn (nv a)
  have hvb := nv_cn (nv b)
  generalize Ψ .cn (nv a) = p at *
  generalize Ψ .cn (nv b) = q at *
  refine nx ?_
  refine ⟨ci_nonneg _, by simp only [wz]; omega, by simp only [wz]; omega, ?_⟩
  refine LoopG.intro (σ := Nat × List Nat × Nat) [1, 6, 7, 23, 24, 25] [1050]
    (fun s => [.d (dN Ψ q), .own 1050 1, .d (.i .u32 (Ω .ci s.2.2)), .d (dN Ψ p), .d (.i .i64 (Ω .ci p.length)), .d (.i .i64 (Ω .ci s.1))])
    (fun s => [.row true T.uint32 1 (Ψ .lims s.2.1)])
    (fun s => s.1 ≤ p.length ∧ s.2.1.length = s.1 ∧ lim s.2.1 ∧ s.2.2 ≤ 1 ∧ nv s.2.1 + nv (q.take s.1) = nv (p.take s.1) + 4294967296 ^ s.1 * s.2.2)
    (fun s => p.length - s.1) (0, [], 0) [1402] ⟨Nat.zero_le _, rfl, lim_nil, Nat.zero_le _, by simp⟩ ⟨rfl, rfl, rfl⟩ ?_
  rintro ⟨i, z, c⟩ ⟨hi, hzl, hzn, hc, he⟩
  simp only at hi hzl hzn hc he
  refine nx ?_
  refine BrG.split (fun h => ?_) (fun h => ?_)
  · have hi2 : i < p.length := by have := h; simp only [wz] at this; omega
    obtain ⟨u, hu⟩ : ∃ u, p[i]? = some u := ⟨_, List.getElem?_eq_getElem hi2⟩
    have hul := lim_get hpn hu
    have hud : p.getD i 0 = u := by simp [List.getD, hu]
    refine nx ?_
    refine idx_lims i u rfl hu rfl ?_
    refine nx ?_
    have hvl := getD_lt hqn i
    have fin : ∀ v, v = q.getD i 0 → (i + 1 ≤ p.length ∧ (z ++ [(4294967296 + u - v - c) % 4294967296]).length = i + 1 ∧ lim (z ++ [(4294967296 + u - v - c) % 4294967296]) ∧ (if u < v + c then 1 else 0) ≤ 1 ∧
        nv (z ++ [(4294967296 + u - v - c) % 4294967296]) + nv (q.take (i + 1)) = nv (p.take (i + 1)) + 4294967296 ^ (i + 1) * (if u < v + c then 1 else 0)) := fun v hv => by
      refine ⟨hi2, by simp [hzl], lim_append.2 ⟨hzn, by simp [lim_cons, lim_nil]; omega⟩, by split <;> omega, ?_⟩
      rw [nv_snoc, hzl, nv_take_succ', nv_take_succ', hud, ← hv, Nat.pow_succ]
      exact sub_step he (by split <;> omega)
    refine nx ?_
    refine BrG.split (fun h => ?_) (fun h => ?_)
    · have hi3 : i < q.length := by have := h; simp only [wz] at this; omega
      obtain ⟨v, hv⟩ : ∃ v, q[i]? = some v := ⟨_, List.getElem?_eq_getElem hi3⟩
      have hvd : q.getD i 0 = v := by simp [List.getD, hv]
      rw [hvd] at hvl
      refine nx ?_
      refine idx_lims i v rfl hv rfl ?_
      refine nx ?_
      refine ⟨_, hC _ _ _ (sub32_good u v c hul hvl hc), ?_⟩
      have hf := fin v hvd.symm
      generalize (if u < v + c then 1 else 0) = c' at *
      refine nx ?_
      refine ⟨cells_one _ _, (by simp only [wz]; omega), (i + 1, z ++ [(4294967296 + u - v - c) % 4294967296], c'), [2403], hf, by simp only; omega, rfl, ?_, ?_⟩
      · refine Eq.trans (b := [.d (dN Ψ q), .own 1050 1, .d (.i .u32 (Ω .ci _)), .d (dN Ψ p), .d (.i .i64 (Ω .ci p.length)), .d (.i .i64 _)]) rfl ?_
        rw [wrap_succ (by omega)]
      · refine Eq.trans (b := [.row true T.uint32 1 _]) rfl ?_
        rw [scat_snoc]
    · have hi3 : q.length ≤ i := by have := h; simp only [wz] at this; omega
      have hvd : q.getD i 0 = 0 := by simp [List.getD, hi3]
      refine nx ?_
      refine ⟨_, hC _ _ _ (sub32_good u 0 c hul (by omega) hc), ?_⟩
      have hf := fin 0 hvd.symm
      generalize (if u < 0 + c then 1 else 0) = c' at *
      refine nx ?_
      refine ⟨cells_one _ _, (by simp only [wz]; omega), (i + 1, z ++ [(4294967296 + u - 0 - c) % 4294967296], c'), [2403], hf, by simp only; omega, rfl, ?_, ?_⟩
      · refine Eq.trans (b := [.d (dN Ψ q), .own 1050 1, .d (.i .u32 (Ω .ci _)), .d (dN Ψ p), .d (.i .i64 (Ω .ci p.length)), .d (.i .i64 _)]) rfl ?_
        rw [wrap_succ (by omega)]
      · refine Eq.trans (b := [.row true T.uint32 1 _]) rfl ?_
        rw [scat_snoc]
  · have hi2 : i = p.length := by have := h; simp only [wz] at this; omega
    subst hi2
    rw [List.take_length, List.take_of_length_le hlen] at he
    have hzb := nv_lt hzn
    rw [hzl] at hzb
    have hc0 : c = 0 := by
      rcases Nat.lt_or_ge 0 c with q | q
      · have : c = 1 := by omega
        subst this
        omega
      · omega
    subst hc0
    have hg := trim_good z hzn (by omega)
    rw [show nv z = nv a - nv b by omega] at hg
    refine nx ?_
    refine ⟨_, hC _ _ _ hg, ?_⟩
    exact nx trivial
end Go.K.S
end
section
namespace Go.K.S
open Go Go.K
set_option maxHeartbeats 4000000
set_option maxRecDepth 20000
theorem whole_good (r : RL) {k : Nat} (h : Rn k r) (hk : k < 549755813888) : Good P F.rat_whole [.d (.agg (dR Ψ r))] [] (.d (.agg (dR Ψ (wh r)))) [] := by
  refine G.rat_whole fun C C2 hC hC2 => ?_
  have g := bits_good r.den (h.N2 (by omega))
  have hz : bl (nv r.den) = 0 → wh r = ⟨false, [], [1]⟩ := fun q => wh_zero (bl_eq_zero.1 q)
  have hnz : bl (nv r.den) ≠ 0 → wh r = r := fun q => wh_ne fun c => q (bl_eq_zero.2 c)
  obtain ⟨R, hR⟩ : ∃ R, R = wh r := ⟨_, rfl⟩
  rw [← hR] at hz hnz ⊢
  generalize bl (nv r.den) = n at *
  obtain ⟨b, x, y⟩ := r
  simp only at g
  refine nx ?_
  refine ⟨_, hC _ _ _ g, ?_⟩
  refine nx ?_
  refine BrG.split (fun h => ?_) (fun h => ?_)
  · have h0 : n = 0 := by have := h; simp only [wz] at this ⊢; omega
    have := hz h0
    subst this
    refine nx ?_
    refine ⟨_, hC _ _ _ one_good, ?_⟩
    refine nx ?_
    rfl
  · have h0 : n ≠ 0 := by have := h; simp only [wz] at this ⊢; omega
    have := hnz h0
    subst this
    exact nx trivial
theorem plus_good (a b : RL) {j k : Nat} (ha : Rn j a) (hb : Rn k b) (hj : 0 < j) (hk : 0 < k) (hj2 : j < 68719476736) (hk2 : k < 68719476736) :
    Good P F.rat_plus [.d (.agg (dR Ψ a)), .d (.agg (dR Ψ b))] [] (.d (.agg (dR Ψ (Ψ .cr (rv a + rv b))))) [] := by
  refine G.rat_plus fun C C2 hC hC2 => ?_
  have gw1 := whole_good a ha (by omega)
  have gw2 := whole_good b hb (by omega)
  rw [← rv_wh a, ← rv_wh b]
  have ha' := Rn_wh ha hj
  have hb' := Rn_wh hb hk
  have hda := wh_den a
  have hdb := wh_den b
  generalize wh a = p at *
  generalize wh b = q at *
  have hadd := rv_add hda hdb
  have p1 := ha'.N1 (by omega)
  have p2 := ha'.N2 (by omega)
  have q1 := hb'.N1 (by omega)
  have q2 := hb'.N2 (by omega)
  have lp1 := ha'.kn
  have lp2 := ha'.kd
  have lq1 := hb'.kn
  have lq2 := hb'.kd
  have m1 := mul_good p.num q.den p1 q2 (by omega) (by omega)
  have m2 := mul_good q.num p.den q1 p2 (by omega) (by omega)
  have m3 := mul_good p.den q.den p2 q2 (by omega) (by omega)
  have b1 : nv p.num * nv q.den < 4294967296 ^ (j + k) := lt_mul_pow (nv_lt_pow p1.lim lp1) (nv_lt_pow q2.lim lq2)
  have b2 : nv q.num * nv p.den < 4294967296 ^ (j + k) := by rw [Nat.add_comm]; exact lt_mul_pow (nv_lt_pow q1.lim lq1) (nv_lt_pow p2.lim lp2)
  have b3 : nv p.den * nv q.den < 4294967296 ^ (j + k) := lt_mul_pow (nv_lt_pow p2.lim lp2) (nv_lt_pow q2.lim lq2)
  obtain ⟨s, n1, d1⟩ := p
  obtain ⟨t, n2, d2⟩ := q
  simp only at *
  generalize nv n1 * nv d2 = x at *
  generalize nv n2 * nv d1 = y at *
  generalize nv d1 * nv d2 = z at *
  generalize rv _ + rv _ = v at *
  obtain ⟨R, hR⟩ : ∃ R, R = Ψ .cr v := ⟨_, rfl⟩
  rw [← hR]
  rw [hadd] at hR
  have hNx := N_cn b1 (by omega)
  have ny := N_cn b2 (by omega)
  have nz := N_cn b3 (by omega)
  have lx := len_cn.2 b1
  have ly := len_cn.2 b2
  have lz := len_cn.2 b3
  have gadd := add_good (Ψ .cn x) (Ψ .cn y) hNx ny (by omega) (by omega)
  rw [nv_cn, nv_cn] at gadd
  have badd : x + y < 4294967296 ^ (j + k + 1) := by rw [Nat.pow_succ]; omega
  have g1 := made_good s (Ψ .cn (x + y)) (Ψ .cn z) (N_cn badd (by omega)) nz (by have := len_cn.2 badd; omega) (by omega)
  rw [nv_cn, nv_cn] at g1
  have gsub : y ≤ x → _ := fun h => sub_good (Ψ .cn x) (Ψ .cn y) hNx ny (by rw [nv_cn, nv_cn]; exact h)
  have gsub2 : x < y → _ := fun h => sub_good_lt (Ψ .cn x) (Ψ .cn y) hNx ny (by rw [nv_cn, nv_cn]; exact h)
  have gsub3 : x ≤ y → _ := fun h => sub_good (Ψ .cn y) (Ψ .cn x) ny hNx (by rw [nv_cn, nv_cn]; exact h)
  rw [nv_cn, nv_cn] at gsub gsub3
  have bs1 : x - y < 4294967296 ^ (j + k) := by omega
  have bs2 : y - x < 4294967296 ^ (j + k) := by omega
  have g2 := made_good s (Ψ .cn (x - y)) (Ψ .cn z) (N_cn bs1 (by omega)) nz (by have := len_cn.2 bs1; omega) (by omega)
  have g3 := made_good t (Ψ .cn (y - x)) (Ψ .cn z) (N_cn bs2 (by omega)) nz (by have := len_cn.2 bs2; omega) (by omega)
  rw [nv_cn, nv_cn] at g2 g3
  have e1 : s = t → mkRat (sg s (x + y)) z = mkRat (sg s x + sg t y) z := fun h => by subst h; rw [sg_add_same]
  have e2 : s ≠ t → y ≤ x → mkRat (sg s (x - y)) z = mkRat (sg s x + sg t y) z := fun h h2 => by rw [sg_add_diff h h2]
  have e3 : s ≠ t → x ≤ y → mkRat (sg t (y - x)) z = mkRat (sg s x + sg t y) z := fun h h2 => by rw [Int.add_comm, sg_add_diff (fun c => h c.symm) h2]
  refine nx ?_
  refine ⟨_, hC _ _ _ gw1, ?_⟩
  refine nx ?_
  refine ⟨_, hC _ _ _ gw2, ?_⟩
  refine nx ?_
  refine ⟨_, hC _ _ _ m1, ?_⟩
  refine nx ?_
  refine ⟨_, hC _ _ _ m2, ?_⟩
  refine nx ?_
  refine ⟨_, hC _ _ _ m3, ?_⟩
  refine nx ?_
  refine BrG.split (fun h => ?_) (fun h => ?_)
  · have hst : s = t := by simpa using h
    rw [e1 hst, ← hR] at g1
    refine nx ?_
    refine ⟨_, hC _ _ _ gadd, ?_⟩
    refine nx ?_
    refine ⟨_, hC _ _ _ g1, ?_⟩
    exact nx trivial
  · have hst : s ≠ t := by simpa using h
    refine nx ?_
    rcases Nat.lt_or_ge x y with c | c
    · rw [e3 hst (Nat.le_of_lt c), ← hR] at g3
      refine ⟨_, hC _ _ _ (gsub2 c), ?_⟩
      refine nx ?_
      refine ⟨_, hC _ _ _ (gsub3 (Nat.le_of_lt c)), ?_⟩
      refine nx ?_
      refine ⟨_, hC _ _ _ g3, ?_⟩
      exact nx trivial
    · rw [e2 hst c, ← hR] at g2
      refine ⟨_, hC _ _ _ (gsub c), ?_⟩
      refine nx ?_
      refine ⟨_, hC _ _ _ g2, ?_⟩
      exact nx trivial
end Go.K.S
end
section
namespace Go.K.S
open Go Go.K
set_option maxHeartbeats 4000000
set_option maxRecDepth 20000
theorem times_good (p q : Rat) {j k : Nat} (hp : Qn j p) (hq : Qn k q) (hj : 0 < j) (hk : 0 < k) (hj2 : j < 68719476736) (hk2 : k < 68719476736) :
    Good P F.rat_times [.d (.agg (dR Ψ (Ψ .cr p))), .d (.agg (dR Ψ (Ψ .cr q)))] [] (.d (.agg (dR Ψ (Ψ .cr (p * q))))) [] := by
  refine G.rat_times fun C C2 hC hC2 => ?_
  have rp := Rn_cr.2 hp
  have rq := Rn_cr.2 hq
  obtain ⟨R, hR⟩ : ∃ R, R = Ψ .cr (p * q) := ⟨_, rfl⟩
  rw [← hR]
  by_cases hp0 : p = 0
  · have : R = ⟨false, [], [1]⟩ := by rw [hR, hp0, Rat.zero_mul, cr_zero]
    subst this
    rw [hp0, cr_zero]
    refine nx ?_
    refine BrG.split (fun h => ?_) (fun h => by have := h; simp [wz] at this)
    refine nx ?_
    refine ⟨_, hC _ _ _ one_good, ?_⟩
    refine nx ?_
    rfl
  by_cases hq0 : q = 0
  · have : R = ⟨false, [], [1]⟩ := by rw [hR, hq0, Rat.mul_zero, cr_zero]
    subst this
    have hnp : (Ψ .cr p).num.length ≠ 0 := fun c => hp0 (cr_num_nil.1 (List.eq_nil_of_length_eq_zero c))
    rw [hq0, cr_zero]
    generalize Ψ .cr p = a at *
    obtain ⟨b, x, y⟩ := a
    refine nx ?_
    refine BrG.split (fun h => ?_) (fun h => ?_)
    · exfalso
      simp only at hnp
      have : x.length = 0 := by have := h; simp only [wz] at this ⊢; omega
      exact hnp this
    refine nx ?_
    refine BrG.split (fun h => ?_) (fun h => by have := h; simp [wz] at this)
    refine nx ?_
    refine ⟨_, hC _ _ _ one_good, ?_⟩
    refine nx ?_
    rfl
  have hnp : (Ψ .cr p).num.length ≠ 0 := fun c => hp0 (cr_num_nil.1 (List.eq_nil_of_length_eq_zero c))
  have hnq : (Ψ .cr q).num.length ≠ 0 := fun c => hq0 (cr_num_nil.1 (List.eq_nil_of_length_eq_zero c))
  have hmul := cr_mul hp0 hq0
  rw [← hR] at hmul
  have hpn : p.num.natAbs ≠ 0 := by simpa using hp0
  have hqn : q.num.natAbs ≠ 0 := by simpa using hq0
  have g1 := made_good (Ψ .cr p).neg (Ψ .cr p).num (Ψ .cr q).den (rp.N1 (by omega)) (rq.N2 (by omega)) (by have := rp.kn; omega) (by have := rq.kd; omega)
  have g2 := made_good (Ψ .cr q).neg (Ψ .cr q).num (Ψ .cr p).den (rq.N1 (by omega)) (rp.N2 (by omega)) (by have := rq.kn; omega) (by have := rp.kd; omega)
  have e1 : (Ψ .cr p).num = Ψ .cn p.num.natAbs := rfl
  have e2 : (Ψ .cr p).den = Ψ .cn p.den := rfl
  have e3 : (Ψ .cr q).num = Ψ .cn q.num.natAbs := rfl
  have e4 : (Ψ .cr q).den = Ψ .cn q.den := rfl
  rw [e1, e4, nv_cn, nv_cn, cr_mk hpn q.den_nz] at g1
  rw [e3, e2, nv_cn, nv_cn, cr_mk hqn p.den_nz] at g2
  have b1 : p.num.natAbs / p.num.natAbs.gcd q.den < 4294967296 ^ j := Nat.lt_of_le_of_lt (Nat.div_le_self _ _) hp.n
  have b2 : q.den / p.num.natAbs.gcd q.den < 4294967296 ^ k := Nat.lt_of_le_of_lt (Nat.div_le_self _ _) hq.d
  have b3 : q.num.natAbs / q.num.natAbs.gcd p.den < 4294967296 ^ k := Nat.lt_of_le_of_lt (Nat.div_le_self _ _) hq.n
  have b4 : p.den / q.num.natAbs.gcd p.den < 4294967296 ^ j := Nat.lt_of_le_of_lt (Nat.div_le_self _ _) hp.d
  have m1 := mul_good (Ψ .cn (p.num.natAbs / p.num.natAbs.gcd q.den)) (Ψ .cn (q.num.natAbs / q.num.natAbs.gcd p.den)) (N_cn b1 (by omega)) (N_cn b3 (by omega)) (by have := len_cn.2 b1; omega) (by have := len_cn.2 b3; omega)
  have m2 := mul_good (Ψ .cn (q.den / p.num.natAbs.gcd q.den)) (Ψ .cn (p.den / q.num.natAbs.gcd p.den)) (N_cn b2 (by omega)) (N_cn b4 (by omega)) (by have := len_cn.2 b2; omega) (by have := len_cn.2 b4; omega)
  rw [nv_cn, nv_cn] at m1 m2
  rw [← e1, ← e4] at g1
  rw [← e3, ← e2] at g2
  generalize p.num.natAbs / p.num.natAbs.gcd q.den = v1 at *
  generalize q.den / p.num.natAbs.gcd q.den = v2 at *
  generalize q.num.natAbs / q.num.natAbs.gcd p.den = v3 at *
  generalize p.den / q.num.natAbs.gcd p.den = v4 at *
  generalize v1 * v3 = w1 at *
  generalize v2 * v4 = w2 at *
  clear e1 e2 e3 e4 rp rq
  generalize Ψ .cr p = a at *
  generalize Ψ .cr q = b at *
  obtain ⟨s, x, y⟩ := a
  obtain ⟨s', x', y'⟩ := b
  simp only at *
  subst hmul
  refine nx ?_
  refine BrG.split (fun h => ?_) (fun h => ?_)
  · exfalso
    have : x.length = 0 := by have := h; simp only [wz] at this ⊢; omega
    exact hnp this
  refine nx ?_
  refine BrG.split (fun h => ?_) (fun h => ?_)
  · exfalso
    have : x'.length = 0 := by have := h; simp only [wz] at this ⊢; omega
    exact hnq this
  refine nx ?_
  refine ⟨_, hC _ _ _ g1, ?_⟩
  refine nx ?_
  refine ⟨_, hC _ _ _ g2, ?_⟩
  cases s <;> cases s'
  all_goals
    refine nx ?_
    refine ⟨_, hC _ _ _ m1, ?_⟩
    refine nx ?_
    refine ⟨_, hC _ _ _ m2, ?_⟩
    exact nx trivial
theorem sum_good (l : List RL) {k : Nat} (hl : ∀ r, r ∈ l → Rn k r) (hk : 0 < k) (hs : (l.length + 1) * (k + 1) < 68719476736) :
    Good P F.rat_Sum [.d (.sl (Ψ .dRs l))] [] (.d (.agg (dR Ψ (Ψ .cr (rsum l))))) [] := by
  refine G.rat_Sum fun C C2 hC hC2 => ?_
  have hln : l.length < 68719476736 := by
    have := Nat.le_mul_of_pos_right (l.length + 1) (show 0 < k + 1 by omega)
    omega
  have hq : ∀ i, i ≤ l.length → Qn (i * (k + 1) + 1) (rsum (l.take i)) := fun i => by
    induction i with
    | zero => intro _; exact Qn_zero (by omega)
    | succ i ih =>
      intro hi
      obtain ⟨r, hr⟩ : ∃ r, l[i]? = some r := ⟨_, List.getElem?_eq_getElem (by omega)⟩
      rw [take_succ_of hr, rsum_snoc]
      refine (Qn_add (ih (by omega)) (Qn_rv (hl r (List.mem_of_getElem? hr)) hk)).mono ?_
      rw [Nat.add_mul]; omega
  have hbd : ∀ i, i ≤ l.length → i * (k + 1) + 1 < 68719476736 := fun i hi => by
    have := Nat.mul_le_mul_right (k + 1) hi
    rw [Nat.add_mul] at hs
    omega
  have hst : ∀ i r, l[i]? = some r → rsum (l.take (i + 1)) = rsum (l.take i) + rv r := fun i r hr => by rw [take_succ_of hr, rsum_snoc]
  have hlast : rsum (l.take l.length) = rsum l := by rw [List.take_length]
  have hz : rsum (l.take 0) = 0 := rfl
  obtain ⟨R0, hR0⟩ : ∃ R, R = rsum l := ⟨_, rfl⟩
  rw [← hR0] at hlast ⊢
  obtain ⟨S, hS⟩ : ∃ S : Nat → Rat, S = fun i => rsum (l.take i) := ⟨_, rfl⟩
  have hSe : ∀ i, rsum (l.take i) = S i := fun i => by rw [hS]
  simp only [hSe] at hq hst hlast hz
  clear hSe hS
  refine nx ?_
  refine ⟨_, hC _ _ _ one_good, ?_⟩
  refine nx ?_
  refine LoopG.intro (σ := Nat) [2, 3, 8, 9, 10] [1050, 1051]
      (fun i => [.ptr 1050 0, .ptr 1051 0, .d (.sl (Ψ .dRs l)), .d (.i .i64 (Ω .ci l.length)), .d (.i .i64 (Ω .ci i))])
      (fun i => [.var [.d (.b false), .nil, .nil], match i with | 0 => .var [.d (.b false), .nil, .d (.sl (Ψ .lims [1]))] | i + 1 => .var ((dR Ψ (Ψ .cr (S (i + 1)))).map V.d)])
      (fun i => i ≤ l.length)
      (fun i => l.length - i) 0 [1000, 1102] (Nat.zero_le _) ⟨rfl, rfl, rfl⟩ ?_
  rintro (_ | i) hi
  · refine nx ?_
    refine BrG.split (fun h => ?_) (fun h => ?_)
    · have hlen : 0 < l.length := by have := h; simp only [wz] at this; omega
      obtain ⟨r, hr⟩ : ∃ r, l[0]? = some r := ⟨_, List.getElem?_eq_getElem hlen⟩
      have g := read_good r (hl r (List.mem_of_getElem? hr)) (by have := hbd 1 hlen; omega)
      have e : S 1 = rv r := by rw [hst 0 r hr, hz, Rat.zero_add]
      rw [← e] at g
      refine nx ?_
      refine ⟨Int.le_refl _, (idx_dRs 0 r rfl hr rfl ?_).2⟩
      refine nx ?_
      refine BrG.split (fun h => ?_) (fun h => by have := h; simp [wz] at this)
      refine nx ?_
      refine ⟨_, hC _ _ _ g, ?_⟩
      refine nx ?_
      refine ⟨1, [1050, 1051], hlen, by omega, rfl, ?_, rfl⟩
      refine Eq.trans (b := [.ptr 1050 0, .ptr 1051 0, .d (.sl (Ψ .dRs l)), .d (.i .i64 (Ω .ci l.length)), .d (.i .i64 _)]) rfl ?_
      rw [wrap_succ (by omega)]
    · have hlen : l.length = 0 := by
        have := h; simp only [wz] at this
        omega
      rw [hlen, hz] at hlast
      subst hlast
      refine nx ?_
      rw [cr_zero]
      rfl
  · have q := hq (i + 1) hi
    have hb := hbd (i + 1) hi
    refine nx ?_
    refine BrG.split (fun h => ?_) (fun h => ?_)
    · have hlen : i + 1 < l.length := by have := h; simp only [wz] at this; omega
      obtain ⟨r, hr⟩ : ∃ r, l[i + 1]? = some r := ⟨_, List.getElem?_eq_getElem hlen⟩
      have hb2 := hbd (i + 2) hlen
      have g := plus_good (Ψ .cr (S (i + 1))) r (Rn_cr.2 q) (hl r (List.mem_of_getElem? hr)) (by omega) hk hb (by rw [Nat.add_mul] at hb2; omega)
      rw [rv_cr, ← hst _ r hr] at g
      refine nx ?_
      refine idx_dRs (i + 1) r rfl hr rfl ?_
      refine nx ?_
      refine BrG.split (fun h => ?_) (fun h => ?_)
      · exfalso
        simp [wz] at h
        first | omega | (have := of_decide_eq_true h; omega)
      refine nx ?_
      refine ⟨_, hC _ _ _ g, ?_⟩
      refine nx ?_
      refine ⟨i + 1 + 1, [1050, 1051], hlen, by omega, rfl, ?_, rfl⟩
      refine Eq.trans (b := [.ptr 1050 0, .ptr 1051 0, .d (.sl (Ψ .dRs l)), .d (.i .i64 (Ω .ci l.length)), .d (.i .i64 _)]) rfl ?_
      rw [wrap_succ (by omega)]
    · have hlen : i + 1 = l.length := by have := h; simp only [wz] at this; omega
      rw [← hlen] at hlast
      subst hlast
      exact nx trivial
theorem product_good (l : List RL) {k : Nat} (hl : ∀ r, r ∈ l → Rn k r) (hk : 0 < k) (hs : (l.length + 1) * (k + 1) < 68719476736) :
    Good P F.rat_Product [.d (.sl (Ψ .dRs l))] [] (.d (.agg (dR Ψ (Ψ .cr (rprod l))))) [] := by
  refine G.rat_Product fun C C2 hC hC2 => ?_
  have hln : l.length < 68719476736 := by
    have := Nat.le_mul_of_pos_right (l.length + 1) (show 0 < k + 1 by omega)
    omega
  have hq : ∀ i, i ≤ l.length → Qn (i * (k + 1) + 1) (rprod (l.take i)) := fun i => by
    induction i with
    | zero => intro _; exact Qn_one (by omega)
    | succ i ih =>
      intro hi
      obtain ⟨r, hr⟩ : ∃ r, l[i]? = some r := ⟨_, List.getElem?_eq_getElem (by omega)⟩
      rw [take_succ_of hr, rprod_snoc]
      refine (Qn_mul (ih (by omega)) (Qn_rv (hl r (List.mem_of_getElem? hr)) hk) (by omega)).mono ?_
      rw [Nat.add_mul]; omega
  have hbd : ∀ i, i ≤ l.length → i * (k + 1) + 1 < 68719476736 := fun i hi => by
    have := Nat.mul_le_mul_right (k + 1) hi
    rw [Nat.add_mul] at hs
    omega
  have hst : ∀ i r, l[i]? = some r → rprod (l.take (i + 1)) = rprod (l.take i) * rv r := fun i r hr => by rw [take_succ_of hr, rprod_snoc]
  have hlast : rprod (l.take l.length) = rprod l := by rw [List.take_length]
  have hz : rprod (l.take 0) = 1 := rfl
  obtain ⟨R0, hR0⟩ : ∃ R, R = rprod l := ⟨_, rfl⟩
  rw [← hR0] at hlast ⊢
  obtain ⟨S, hS⟩ : ∃ S : Nat → Rat, S = fun i => rprod (l.take i) := ⟨_, rfl⟩
  have hSe : ∀ i, rprod (l.take i) = S i := fun i => by rw [hS]
  simp only [hSe] at hq hst hlast hz
  clear hSe hS
  refine nx ?_
  refine ⟨_, hC _ _ _ one_good, ?_⟩
  refine nx ?_
  refine ⟨_, hC _ _ _ one_good, ?_⟩
  refine nx ?_
  refine LoopG.intro (σ := Nat) [2, 3, 9, 10, 11] [1050, 1051]
      (fun i => [.ptr 1050 0, .ptr 1051 0, .d (.sl (Ψ .dRs l)), .d (.i .i64 (Ω .ci l.length)), .d (.i .i64 (Ω .ci i))])
      (fun i => [.var [.d (.b false), .nil, .nil], .var ((dR Ψ (Ψ .cr (S i))).map V.d)])
      (fun i => i ≤ l.length)
      (fun i => l.length - i) 0 [1000, 1103] (Nat.zero_le _) ⟨rfl, rfl, ?_⟩ ?_
  · rw [hz, cr_one]
    rfl
  intro i hi
  have q := hq i hi
  have hb := hbd i hi
  refine nx ?_
  refine BrG.split (fun h => ?_) (fun h => ?_)
  · have hlen : i < l.length := by have := h; simp only [wz] at this; omega
    obtain ⟨r, hr⟩ : ∃ r, l[i]? = some r := ⟨_, List.getElem?_eq_getElem hlen⟩
    have hb2 := hbd (i + 1) hlen
    have hrn := hl r (List.mem_of_getElem? hr)
    have g1 := read_good r hrn (by rw [Nat.add_mul] at hb2; omega)
    have g := times_good (S i) (rv r) q (Qn_rv hrn hk) (by omega) hk hb (by rw [Nat.add_mul] at hb2; omega)
    rw [← hst _ r hr] at g
    refine nx ?_
    refine idx_dRs i r rfl hr rfl ?_
    refine nx ?_
    refine ⟨_, hC _ _ _ g1, ?_⟩
    refine nx ?_
    refine ⟨_, hC _ _ _ g, ?_⟩
    refine nx ?_
    refine ⟨i + 1, [1050, 1051], hlen, by omega, rfl, ?_, rfl⟩
    refine Eq.trans (b := [.ptr 1050 0, .ptr 1051 0, .d (.sl (Ψ .dRs l)), .d (.i .i64 (Ω .ci l.length)), .d (.i .i64 _)]) rfl ?_
    rw [wrap_succ (by omega)]
  · have hlen : i = l.length := by have := h; simp only [wz] at this; omega
    rw [← hlen] at hlast
    subst hlast
    exact nx trivial
theorem rsub_good (a b : RL) {j k : Nat} (ha : Rn j a) (hb : Rn k b) (hj : 0 < j) (hk : 0 < k) (hj2 : j < 68719476736) (hk2 : k < 68719476736) :
    Good P F.rat_Sub [.d (.agg (dR Ψ a)), .d (.agg (dR Ψ b))] [] (.d (.agg (dR Ψ (Ψ .cr (rv a - rv b))))) [] := by
  refine G.rat_Sub fun C C2 hC hC2 => ?_
  have hb' : Rn k ⟨!b.neg, b.num, b.den⟩ := ⟨hb.ln, hb.ld, hb.kn, hb.kd⟩
  have g := plus_good a ⟨!b.neg, b.num, b.den⟩ ha hb' hj hk hj2 hk2
  rw [rv_neg, ← Rat.sub_eq_add_neg] at g
  obtain ⟨R, hR⟩ : ∃ R, R = Ψ .cr (rv a - rv b) := ⟨_, rfl⟩
  rw [← hR] at g ⊢
  obtain ⟨s, x, y⟩ := b
  simp only at g
  cases s
  all_goals
    refine nx ?_
    refine ⟨_, hC _ _ _ g, ?_⟩
    exact nx trivial
theorem sign_good (r : RL) {k : Nat} (h : Rn k r) (hk : k < 549755813888) : Good P F.rat_Sign [.d (.agg (dR Ψ r))] [] (.d (.i .i64 (Ψ .sI (rv r)))) [] := by
  refine G.rat_Sign fun C C2 hC hC2 => ?_
  have g1 := bits_good r.num (h.N1 (by omega))
  have g2 := bits_good r.den (h.N2 (by omega))
  have z := @rv_zero_iff r
  have hs := @sI_rv r
  rw [← bl_eq_zero (n := nv r.num), ← bl_eq_zero (n := nv r.den)] at z
  simp only [ne_eq, ← bl_eq_zero (n := nv r.num), ← bl_eq_zero (n := nv r.den)] at hs
  have h0 := @sI_zero (rv r)
  rw [z] at h0
  obtain ⟨R, hR⟩ : ∃ R, R = Ψ .sI (rv r) := ⟨_, rfl⟩
  rw [← hR] at hs h0 ⊢
  generalize bl (nv r.num) = m at *
  generalize bl (nv r.den) = n at *
  obtain ⟨s, x, y⟩ := r
  simp only at *
  refine nx ?_
  refine ⟨_, hC _ _ _ g1, ?_⟩
  refine nx ?_
  refine BrG.split (fun h => ?_) (fun h => ?_)
  · have hm : m = 0 := by have := h; simp only [wz] at this ⊢; omega
    have := h0.2 (.inl hm)
    subst this
    exact nx trivial
  · have hm : m ≠ 0 := by have := h; simp only [wz] at this ⊢; omega
    refine nx ?_
    refine ⟨_, hC _ _ _ g2, ?_⟩
    refine nx ?_
    refine BrG.split (fun h => ?_) (fun h => ?_)
    · have hm : n = 0 := by have := h; simp only [wz] at this ⊢; omega
      have := h0.2 (.inr hm)
      subst this
      exact nx trivial
    · have hn : n ≠ 0 := by have := h; simp only [wz] at this ⊢; omega
      have := hs hm hn
      subst this
      cases s
      · exact nx trivial
      · exact nx trivial
theorem rcmp_good (a b : RL) {j k : Nat} (ha : Rn j a) (hb : Rn k b) (hj2 : j < 68719476736) (hk2 : k < 68719476736) :
    Good P F.rat_Cmp [.d (.agg (dR Ψ a)), .d (.agg (dR Ψ b))] [] (.d (.i .i64 (Ψ .cI (rv a) (rv b)))) [] := by
  refine G.rat_Cmp fun C C2 hC hC2 => ?_
  have g1 := sign_good a ha (by omega)
  have g2 := sign_good b hb (by omega)
  have m1 := mul_good a.num b.den (ha.N1 (by omega)) (hb.N2 (by omega)) (by have := ha.kn; omega) (by have := hb.kd; omega)
  have m2 := mul_good b.num a.den (hb.N1 (by omega)) (ha.N2 (by omega)) (by have := hb.kn; omega) (by have := ha.kd; omega)
  have b1 : nv a.num * nv b.den < 4294967296 ^ (j + k) := lt_mul_pow (nv_lt_pow ha.ln ha.kn) (nv_lt_pow hb.ld hb.kd)
  have b2 : nv b.num * nv a.den < 4294967296 ^ (j + k) := by rw [Nat.add_comm]; exact lt_mul_pow (nv_lt_pow hb.ln hb.kn) (nv_lt_pow ha.ld ha.kd)
  have g3 := cmp_good (Ψ .cn (nv a.num * nv b.den)) (Ψ .cn (nv b.num * nv a.den)) (N_cn b1 (by omega)) (N_cn b2 (by omega))
  rw [nv_cn, nv_cn] at g3
  have e1 := @cI_sign_ne (rv a) (rv b)
  have e2 := @cI_sign_eq a b
  have l1 := sI_lt (rv a)
  have l2 := cmpI_lt (nv a.num * nv b.den) (nv b.num * nv a.den)
  generalize Ψ .cmpI (nv a.num * nv b.den) (nv b.num * nv a.den) = c at *
  generalize nv a.num * nv b.den = u at *
  generalize nv b.num * nv a.den = v at *
  generalize Ψ .sI (rv a) = s at *
  generalize Ψ .sI (rv b) = t at *
  obtain ⟨R, hR⟩ : ∃ R, R = Ψ .cI (rv a) (rv b) := ⟨_, rfl⟩
  rw [← hR] at e1 e2 ⊢
  clear hR
  obtain ⟨sa, xa, ya⟩ := a
  obtain ⟨sb, xb, yb⟩ := b
  simp only at *
  refine nx ?_
  refine ⟨_, hC _ _ _ g1, ?_⟩
  refine nx ?_
  refine ⟨_, hC _ _ _ g2, ?_⟩
  refine nx ?_
  refine BrG.split (fun h => ?_) (fun h => ?_)
  · have hne : s ≠ t := by have := h; simp only [wz] at this ⊢; omega
    have := e1 hne
    refine nx ?_
    refine BrG.split (fun h => ?_) (fun h => ?_)
    · rw [if_pos (by have := h; simp only [wz] at this; exact this)] at this
      subst this
      exact nx trivial
    · rw [if_neg (by have := h; simp only [wz] at this; omega)] at this
      subst this
      exact nx trivial
  · have he : s = t := by have := h; simp only [wz] at this ⊢; omega
    have hRc := e2 he
    refine nx ?_
    refine ⟨_, hC _ _ _ m1, ?_⟩
    refine nx ?_
    refine ⟨_, hC _ _ _ m2, ?_⟩
    refine nx ?_
    refine ⟨_, hC _ _ _ g3, ?_⟩
    refine nx ?_
    have : Ω .wrap .i64 (s * c) = s * c := by
      have h1 : s = -1 ∨ s = 0 ∨ s = 1 := by omega
      have h2 : c = -1 ∨ c = 0 ∨ c = 1 := by omega
      rcases h1 with rfl | rfl | rfl <;> rcases h2 with rfl | rfl | rfl <;> rfl
    rw [this, ← hRc]
theorem rsame_good (a b : RL) {j k : Nat} (ha : Rn j a) (hb : Rn k b) (hj2 : j < 68719476736) (hk2 : k < 68719476736) :
    Good P F.rat_Same [.d (.agg (dR Ψ a)), .d (.agg (dR Ψ b))] [] (.d (.b (decide (rv a = rv b)))) [] := by
  refine G.rat_Same fun C C2 hC hC2 => ?_
  have g := rcmp_good a b ha hb hj2 hk2
  have z : (Ψ .cI (rv a) (rv b) = 0) ↔ rv a = rv b := cI_zero
  obtain ⟨R, hR⟩ : ∃ R, R = decide (rv a = rv b) := ⟨_, rfl⟩
  rw [← hR]
  have hR2 : R = decide (Ψ .cI (rv a) (rv b) = 0) := by rw [hR]; exact decide_eq_decide.2 z.symm
  generalize Ψ .cI (rv a) (rv b) = c at *
  clear hR z
  obtain ⟨sa, xa, ya⟩ := a
  obtain ⟨sb, xb, yb⟩ := b
  refine nx ?_
  refine ⟨_, hC _ _ _ g, ?_⟩
  refine nx ?_
  refine BrG.split (fun h => ?_) (fun h => ?_)
  · have := h; simp only [wz] at this
    rw [decide_eq_true this] at hR2
    subst hR2
    exact nx trivial
  · have := h; simp only [wz] at this
    rw [decide_eq_false this] at hR2
    subst hR2
    exact nx trivial
end Go.K.S
end
section
namespace Go.K
open Go
theorem of_mk (n d : Int) : mkRat (sg (decide (n < 0) != decide (d < 0)) n.natAbs) d.natAbs = (n : Rat) / (d : Rat) := by
  rw [Rat.mkRat_eq_div]
  have key : ∀ m : Int, (m : Rat) = if m < 0 then -((m.natAbs : Nat) : Rat) else ((m.natAbs : Nat) : Rat) := fun m => by
    by_cases h : m < 0
    · rw [if_pos h]
      have : m = -((m.natAbs : Nat) : Int) := by omega
      conv => lhs; rw [this]
      push_cast
      rfl
    · rw [if_neg h]
      have : m = ((m.natAbs : Nat) : Int) := by omega
      conv => lhs; rw [this]
      push_cast
      rfl
  have c : ∀ u : Nat, (((u : Int)) : Rat) = (u : Rat) := fun u => by push_cast; rfl
  have cneg : ∀ u : Nat, ((-(u : Int) : Int) : Rat) = -(u : Rat) := fun u => by push_cast; rfl
  rw [key n, key d]
  generalize n.natAbs = u
  generalize d.natAbs = v
  have e1 : (u : Rat) / (v : Rat) = -(u : Rat) / -(v : Rat) := by
    by_cases h : (v : Rat) = 0
    · rw [h]; simp [Rat.div_def]
    · grind
  have e2 : -(u : Rat) / (v : Rat) = (u : Rat) / -(v : Rat) := by
    by_cases h : (v : Rat) = 0
    · rw [h]; simp [Rat.div_def]
    · grind
  by_cases h1 : n < 0 <;> by_cases h2 : d < 0 <;> simp only [h1, h2, decide_true, decide_false, bne_self_eq_false, if_true, if_false, sg, Bool.false_eq_true, c]
  · exact e1
  · exact cneg u ▸ rfl
  · exact (cneg u ▸ e2)
end Go.K
namespace Go.K.S
open Go Go.K
set_option maxHeartbeats 4000000
set_option maxRecDepth 20000
theorem rdiv_good (a b : RL) {j k : Nat} (ha : Rn j a) (hb : Rn k b) (hj : 0 < j) (hk : 0 < k) (hj2 : j < 68719476736) (hk2 : k < 68719476736) :
    Good P F.rat_Div [.d (.agg (dR Ψ a)), .d (.agg (dR Ψ b))] [] (.tup [.d (.agg (dR Ψ (Ψ .cr (rv a / rv b)))), .d (.b (decide (rv b ≠ 0)))]) [] := by
  refine G.rat_Div fun C C2 hC hC2 => ?_
  have g1 := sign_good b hb (by omega)
  have g2 := read_good a ha (by omega)
  have hb' : Rn k ⟨b.neg, b.den, b.num⟩ := ⟨hb.ld, hb.ln, hb.kd, hb.kn⟩
  have g3 := read_good ⟨b.neg, b.den, b.num⟩ hb' (by omega)
  have g4 := times_good (rv a) (rv ⟨b.neg, b.den, b.num⟩) (Qn_rv ha hj) (Qn_rv hb' hk) hj hk hj2 hk2
  rw [rv_inv] at g3 g4
  rw [← Rat.div_def] at g4
  have z := @sI_zero (rv b)
  obtain ⟨R, hR⟩ : ∃ R, R = Ψ .cr (rv a / rv b) := ⟨_, rfl⟩
  obtain ⟨R2, hR2⟩ : ∃ R, R = decide (rv b ≠ 0) := ⟨_, rfl⟩
  rw [← hR, ← hR2]
  rw [← hR] at g4
  have hz : Ψ .sI (rv b) = 0 → R = ⟨false, [], [1]⟩ ∧ R2 = false := fun c => by
    have h0 := z.1 c
    rw [hR, hR2, h0, Rat.div_def, Rat.inv_zero, Rat.mul_zero, cr_zero]
    exact ⟨rfl, decide_eq_false (fun q => q rfl)⟩
  have hnz : Ψ .sI (rv b) ≠ 0 → R2 = true := fun c => by
    rw [hR2]
    exact decide_eq_true (fun q => c (z.2 q))
  clear z hR hR2
  generalize Ψ .sI (rv b) = s at *
  generalize Ψ .cr (rv a) = A at *
  generalize Ψ .cr (rv b)⁻¹ = B at *
  obtain ⟨sa, xa, ya⟩ := a
  obtain ⟨sb, xb, yb⟩ := b
  simp only at *
  refine nx ?_
  refine ⟨_, hC _ _ _ g1, ?_⟩
  refine nx ?_
  refine BrG.split (fun h => ?_) (fun h => ?_)
  · have h0 : s = 0 := by have := h; simp only [wz] at this ⊢; omega
    obtain ⟨e1, e2⟩ := hz h0
    subst e1
    subst e2
    refine nx ?_
    refine ⟨_, hC _ _ _ one_good, ?_⟩
    refine nx ?_
    rfl
  · have h0 : s ≠ 0 := by have := h; simp only [wz] at this ⊢; omega
    have e1 := hnz h0
    subst e1
    refine nx ?_
    refine ⟨_, hC _ _ _ g2, ?_⟩
    refine nx ?_
    refine ⟨_, hC _ _ _ g3, ?_⟩
    refine nx ?_
    refine ⟨_, hC _ _ _ g4, ?_⟩
    exact nx trivial
theorem size_good (n : Int) (h1 : -9223372036854775808 ≤ n) (h2 : n ≤ 9223372036854775807) : Good P F.rat_size [.d (.i .i64 n)] [] (.d (dN Ψ (Ψ .cn n.natAbs))) [] := by
  refine G.rat_size fun C C2 hC hC2 => ?_
  have g := of_good n.natAbs (by omega)
  obtain ⟨m, hm⟩ : ∃ m, m = n.natAbs := ⟨_, rfl⟩
  rw [← hm] at g ⊢
  refine nx ?_
  refine BrG.split (fun h => ?_) (fun h => ?_)
  · have h0 := of_decide_eq_true h
    have e : Ω .wrap .u64 (0 - Ω .wrap .u64 n) = Ω .ci m := by
      rw [wrapu64, wrapu64]; simp only [wz]; omega
    refine nx ?_
    rw [e]
    refine ⟨_, hC _ _ _ g, ?_⟩
    exact nx trivial
  · have h0 := of_decide_eq_false h
    have e : Ω .wrap .u64 n = Ω .ci m := by
      rw [wrapu64]; simp only [wz]; omega
    refine nx ?_
    rw [e]
    refine ⟨_, hC _ _ _ g, ?_⟩
    exact nx trivial
theorem rof_good (n d : Int) (h1 : -9223372036854775808 ≤ n) (h2 : n ≤ 9223372036854775807) (h3 : -9223372036854775808 ≤ d) (h4 : d ≤ 9223372036854775807) :
    Good P F.rat_Of [.d (.i .i64 n), .d (.i .i64 d)] [] (.d (.agg (dR Ψ (Ψ .cr ((n : Rat) / (d : Rat)))))) [] := by
  refine G.rat_Of fun C C2 hC hC2 => ?_
  have g1 := size_good n h1 h2
  have g2 := size_good d h3 h4
  have b1 : n.natAbs < 4294967296 ^ 2 := by omega
  have b2 : d.natAbs < 4294967296 ^ 2 := by omega
  have g3 := made_good (decide (n < 0) != decide (d < 0)) (Ψ .cn n.natAbs) (Ψ .cn d.natAbs) (N_cn b1 (by omega)) (N_cn b2 (by omega)) (by have := len_cn.2 b1; omega) (by have := len_cn.2 b2; omega)
  rw [nv_cn, nv_cn, of_mk] at g3
  obtain ⟨R, hR⟩ : ∃ R, R = Ψ .cr ((n : Rat) / (d : Rat)) := ⟨_, rfl⟩
  rw [← hR] at g3 ⊢
  clear hR
  generalize n.natAbs = u at *
  generalize d.natAbs = v at *
  refine nx ?_
  refine BrG.split (fun h => ?_) (fun h => ?_)
  all_goals
    rw [show decide (n < 0) = _ from h] at g3
    refine nx ?_
    refine BrG.split (fun h => ?_) (fun h => ?_)
    all_goals
      rw [show decide (d < 0) = _ from h] at g3
      refine nx ?_
      refine ⟨_, hC _ _ _ g1, ?_⟩
      refine nx ?_
      refine ⟨_, hC _ _ _ g2, ?_⟩
      refine nx ?_
      refine ⟨_, hC _ _ _ g3, ?_⟩
      exact nx trivial
end Go.K.S
end
section
namespace Go.K
open Go
theorem rsum2 (a b : RL) : rsum [a, b] = rv a + rv b := by simp [rsum, Rat.zero_add]
theorem rsum3 (a b c : RL) : rsum [a, b, c] = rv a + rv b + rv c := by simp [rsum, Rat.zero_add]
theorem rprod2 (a b : RL) : rprod [a, b] = rv a * rv b := by simp [rprod, Rat.one_mul]
theorem mem2 {α : Type} {a b x : α} (h : x ∈ [a, b]) : x = a ∨ x = b := by simpa [wz] using h
theorem mem3 {α : Type} {a b c x : α} (h : x ∈ [a, b, c]) : x = a ∨ x = b ∨ x = c := by simpa [wz] using h
def vv (v : VL) : V3 := ⟨rv v.x, rv v.y, rv v.z⟩
theorem vv_cV (p : V3) : vv (Ψ .cV p) = p := by simp [vv, p_cV, rv_cr]
structure Vn (k : Nat) (v : VL) : Prop where
  x : Rn k v.x
  y : Rn k v.y
  z : Rn k v.z
structure Pn (k : Nat) (p : V3) : Prop where
  x : Qn k p.x
  y : Qn k p.y
  z : Qn k p.z
theorem Vn_cV {k : Nat} {p : V3} (h : Pn k p) : Vn k (Ψ .cV p) := ⟨Rn_cr.2 h.x, Rn_cr.2 h.y, Rn_cr.2 h.z⟩
theorem Pn_vv {k : Nat} {v : VL} (h : Vn k v) (hk : 0 < k) : Pn k (vv v) := ⟨Qn_rv h.x hk, Qn_rv h.y hk, Qn_rv h.z hk⟩
theorem Vn.mono {j k : Nat} {v : VL} (h : Vn j v) (hjk : j ≤ k) : Vn k v := ⟨h.x.mono hjk, h.y.mono hjk, h.z.mono hjk⟩
theorem Pn.mono {j k : Nat} {v : V3} (h : Pn j v) (hjk : j ≤ k) : Pn k v := ⟨h.x.mono hjk, h.y.mono hjk, h.z.mono hjk⟩
def v0 : V3 := ⟨0, 0, 0⟩
def vadd (p q : V3) : V3 := ⟨p.x + q.x, p.y + q.y, p.z + q.z⟩
def vsub (p q : V3) : V3 := ⟨p.x - q.x, p.y - q.y, p.z - q.z⟩
def vmul (s : Rat) (q : V3) : V3 := ⟨s * q.x, s * q.y, s * q.z⟩
def vdot (p q : V3) : Rat := p.x * q.x + p.y * q.y + p.z * q.z
def vcross (p q : V3) : V3 := ⟨p.y * q.z - p.z * q.y, p.z * q.x - p.x * q.z, p.x * q.y - p.y * q.x⟩
theorem Pn_v0 {k : Nat} (hk : 0 < k) : Pn k v0 := ⟨Qn_zero hk, Qn_zero hk, Qn_zero hk⟩
theorem Pn_add {j k : Nat} {p q : V3} (hp : Pn j p) (hq : Pn k q) : Pn (j + k + 1) (vadd p q) := ⟨Qn_add hp.x hq.x, Qn_add hp.y hq.y, Qn_add hp.z hq.z⟩
theorem Pn_sub {j k : Nat} {p q : V3} (hp : Pn j p) (hq : Pn k q) : Pn (j + k + 1) (vsub p q) := ⟨Qn_sub hp.x hq.x, Qn_sub hp.y hq.y, Qn_sub hp.z hq.z⟩
theorem Pn_mul {j k : Nat} {s : Rat} {q : V3} (hp : Qn j s) (hq : Pn k q) (h : 0 < j + k) : Pn (j + k) (vmul s q) := ⟨Qn_mul hp hq.x h, Qn_mul hp hq.y h, Qn_mul hp hq.z h⟩
theorem Qn_dot {j k : Nat} {p q : V3} (hp : Pn j p) (hq : Pn k q) (h : 0 < j + k) : Qn (3 * (j + k) + 2) (vdot p q) := by
  have := Qn_add (Qn_add (Qn_mul hp.x hq.x h) (Qn_mul hp.y hq.y h)) (Qn_mul hp.z hq.z h)
  exact this.mono (by omega)
theorem Pn_cross {j k : Nat} {p q : V3} (hp : Pn j p) (hq : Pn k q) (h : 0 < j + k) : Pn (2 * (j + k) + 1) (vcross p q) :=
  ⟨(Qn_sub (Qn_mul hp.y hq.z h) (Qn_mul hp.z hq.y h)).mono (by omega), (Qn_sub (Qn_mul hp.z hq.x h) (Qn_mul hp.x hq.z h)).mono (by omega), (Qn_sub (Qn_mul hp.x hq.y h) (Qn_mul hp.y hq.x h)).mono (by omega)⟩
theorem sget_dVs (l : List VL) (k : Nat) : Ω .sget (Ψ .dVs l) k = (l[k]?).map fun r => (D.agg (dV Ψ r) : D) := by simp [w_sget, p_dVs]
theorem idx_dVs {l : List VL} {k : Int} {sz : Nat} {R : D → Prop} (kn : Nat) (r : VL) (hk : k = Ω .ci kn) (hv : l[kn]? = some r) (hsz : 9 = sz) (h : R (.agg (dV Ψ r))) :
    Ω .ile 0 k ∧ ∃ x, Ω .sget (Ψ .dVs l) (Ω .tn k) = some x ∧ x.cells.length = sz ∧ R x := by
  subst hk
  refine ⟨ci_nonneg _, .agg (dV Ψ r), ?_, hsz, h⟩
  rw [tn_ci, sget_dVs, hv]; rfl
def vsum (l : List VL) : V3 := (l.map vv).foldl vadd v0
theorem vsum_snoc (l : List VL) (r : VL) : vsum (l ++ [r]) = vadd (vsum l) (vv r) := by simp [vsum]
theorem vsum2 (a b : VL) : vsum [a, b] = vadd (vv a) (vv b) := by simp [vsum, vadd, v0, Rat.zero_add]
end Go.K
namespace Go.K
open Go
theorem VL.ext_iff' {a b : VL} : a = b ↔ a.x = b.x ∧ a.y = b.y ∧ a.z = b.z := by
  cases a; cases b; simp
theorem RL.ext_iff'' {a b : RL} : a = b ↔ a.neg = b.neg ∧ a.num = b.num ∧ a.den = b.den := by
  cases a; cases b; simp
instance : DecidableEq RL := fun _ _ => decidable_of_iff _ RL.ext_iff''.symm
instance : DecidableEq VL := fun _ _ => decidable_of_iff _ VL.ext_iff'.symm
theorem cr_eq_iff {p q : Rat} : Ψ .cr p = Ψ .cr q ↔ p = q := ⟨cr_inj, fun h => by rw [h]⟩
theorem V3.ext_iff' {a b : V3} : a = b ↔ a.x = b.x ∧ a.y = b.y ∧ a.z = b.z := by
  cases a; cases b; simp
instance : DecidableEq V3 := fun _ _ => decidable_of_iff _ V3.ext_iff'.symm
theorem ML.ext_iff' {a b : ML} : a = b ↔ a.s = b.s ∧ a.u = b.u ∧ a.v = b.v := by
  cases a; cases b; simp
instance : DecidableEq ML := fun _ _ => decidable_of_iff _ ML.ext_iff'.symm
theorem M3.ext_iff' {a b : M3} : a = b ↔ a.s = b.s ∧ a.u = b.u ∧ a.v = b.v := by
  cases a; cases b; simp
structure Mn (k : Nat) (v : ML) : Prop where
  s : Rn k v.s
  u : Rn k v.u
  v : Rn k v.v
end Go.K
end
section
namespace Go.K.S
open Go Go.K
set_option maxHeartbeats 4000000
set_option maxRecDepth 20000
theorem sum2_good (a b : RL) {k : Nat} (ha : Rn k a) (hb : Rn k b) (hk : 0 < k) (hk2 : k < 17179869184) :
    Good P F.rat_Sum [.d (.sl [.agg (dR Ψ a), .agg (dR Ψ b)])] [] (.d (.agg (dR Ψ (Ψ .cr (rv a + rv b))))) [] := by
  have := sum_good [a, b] (k := k) (fun r h => by rcases mem2 h with rfl | rfl <;> assumption) hk (by simp only [List.length_cons, List.length_nil]; omega)
  rw [rsum2] at this
  exact this
theorem sum3_good (a b c : RL) {k : Nat} (ha : Rn k a) (hb : Rn k b) (hc : Rn k c) (hk : 0 < k) (hk2 : k < 17179869183) :
    Good P F.rat_Sum [.d (.sl [.agg (dR Ψ a), .agg (dR Ψ b), .agg (dR Ψ c)])] [] (.d (.agg (dR Ψ (Ψ .cr (rv a + rv b + rv c))))) [] := by
  have := sum_good [a, b, c] (k := k) (fun r h => by rcases mem3 h with rfl | rfl | rfl <;> assumption) hk (by simp only [List.length_cons, List.length_nil]; omega)
  rw [rsum3] at this
  exact this
theorem prod2_good (a b : RL) {k : Nat} (ha : Rn k a) (hb : Rn k b) (hk : 0 < k) (hk2 : k < 17179869184) :
    Good P F.rat_Product [.d (.sl [.agg (dR Ψ a), .agg (dR Ψ b)])] [] (.d (.agg (dR Ψ (Ψ .cr (rv a * rv b))))) [] := by
  have := product_good [a, b] (k := k) (fun r h => by rcases mem2 h with rfl | rfl <;> assumption) hk (by simp only [List.length_cons, List.length_nil]; omega)
  rw [rprod2] at this
  exact this
theorem vof_good (x y z : Int) (h1 : -9223372036854775808 ≤ x) (h2 : x ≤ 9223372036854775807) (h3 : -9223372036854775808 ≤ y) (h4 : y ≤ 9223372036854775807) (h5 : -9223372036854775808 ≤ z) (h6 : z ≤ 9223372036854775807) :
    Good P F.vec_Of [.d (.i .i64 x), .d (.i .i64 y), .d (.i .i64 z)] [] (.d (.agg (dV Ψ (Ψ .cV ⟨x, y, z⟩)))) [] := by
  refine G.vec_Of fun C C2 hC hC2 => ?_
  have g1 := rof_good x 1 h1 h2 (by omega) (by omega)
  have g2 := rof_good y 1 h3 h4 (by omega) (by omega)
  have g3 := rof_good z 1 h5 h6 (by omega) (by omega)
  have e : ∀ n : Int, (n : Rat) / ((1 : Int) : Rat) = n := fun n => by
    have : ((1 : Int) : Rat) = 1 := rfl
    rw [this]; grind
  rw [e] at g1 g2 g3
  have hV : Ψ .cV ⟨x, y, z⟩ = ⟨Ψ .cr x, Ψ .cr y, Ψ .cr z⟩ := rfl
  rw [hV]
  generalize Ψ .cr (x : Rat) = X at *
  generalize Ψ .cr (y : Rat) = Y at *
  generalize Ψ .cr (z : Rat) = Z at *
  refine nx ?_
  refine ⟨_, hC _ _ _ g1, ?_⟩
  refine nx ?_
  refine ⟨_, hC _ _ _ g2, ?_⟩
  refine nx ?_
  refine ⟨_, hC _ _ _ g3, ?_⟩
  exact nx trivial
theorem vsub_good (a b : VL) {k : Nat} (ha : Vn k a) (hb : Vn k b) (hk : 0 < k) (hk2 : k < 68719476736) :
    Good P F.vec_Sub [.d (.agg (dV Ψ a)), .d (.agg (dV Ψ b))] [] (.d (.agg (dV Ψ (Ψ .cV (vsub (vv a) (vv b)))))) [] := by
  refine G.vec_Sub fun C C2 hC hC2 => ?_
  have g1 := rsub_good a.x b.x ha.x hb.x hk hk hk2 hk2
  have g2 := rsub_good a.y b.y ha.y hb.y hk hk hk2 hk2
  have g3 := rsub_good a.z b.z ha.z hb.z hk hk hk2 hk2
  have hV : Ψ .cV (vsub (vv a) (vv b)) = ⟨Ψ .cr (rv a.x - rv b.x), Ψ .cr (rv a.y - rv b.y), Ψ .cr (rv a.z - rv b.z)⟩ := rfl
  rw [hV]
  generalize Ψ .cr (rv a.x - rv b.x) = X at *
  generalize Ψ .cr (rv a.y - rv b.y) = Y at *
  generalize Ψ .cr (rv a.z - rv b.z) = Z at *
  refine nx ?_
  refine ⟨_, hC _ _ _ g1, ?_⟩
  refine nx ?_
  refine ⟨_, hC _ _ _ g2, ?_⟩
  refine nx ?_
  refine ⟨_, hC _ _ _ g3, ?_⟩
  exact nx trivial
theorem vscale_good (s : RL) (b : VL) {k : Nat} (ha : Rn k s) (hb : Vn k b) (hk : 0 < k) (hk2 : k < 17179869184) :
    Good P F.vec_Scale [.d (.agg (dR Ψ s)), .d (.agg (dV Ψ b))] [] (.d (.agg (dV Ψ (Ψ .cV (vmul (rv s) (vv b)))))) [] := by
  refine G.vec_Scale fun C C2 hC hC2 => ?_
  have g1 := prod2_good s b.x ha hb.x hk hk2
  have g2 := prod2_good s b.y ha hb.y hk hk2
  have g3 := prod2_good s b.z ha hb.z hk hk2
  have hV : Ψ .cV (vmul (rv s) (vv b)) = ⟨Ψ .cr (rv s * rv b.x), Ψ .cr (rv s * rv b.y), Ψ .cr (rv s * rv b.z)⟩ := rfl
  rw [hV]
  generalize Ψ .cr (rv s * rv b.x) = X at *
  generalize Ψ .cr (rv s * rv b.y) = Y at *
  generalize Ψ .cr (rv s * rv b.z) = Z at *
  refine nx ?_
  refine ⟨_, hC _ _ _ g1, ?_⟩
  refine nx ?_
  refine ⟨_, hC _ _ _ g2, ?_⟩
  refine nx ?_
  refine ⟨_, hC _ _ _ g3, ?_⟩
  exact nx trivial
theorem vdot_good (a b : VL) {k : Nat} (ha : Vn k a) (hb : Vn k b) (hk : 0 < k) (hk2 : k < 8589934590) :
    Good P F.vec_Dot [.d (.agg (dV Ψ a)), .d (.agg (dV Ψ b))] [] (.d (.agg (dR Ψ (Ψ .cr (vdot (vv a) (vv b)))))) [] := by
  refine G.vec_Dot fun C C2 hC hC2 => ?_
  have g1 := prod2_good a.x b.x ha.x hb.x hk (by omega)
  have g2 := prod2_good a.y b.y ha.y hb.y hk (by omega)
  have g3 := prod2_good a.z b.z ha.z hb.z hk (by omega)
  have q1 := Rn_cr.2 (Qn_mul (Qn_rv ha.x hk) (Qn_rv hb.x hk) (by omega))
  have q2 := Rn_cr.2 (Qn_mul (Qn_rv ha.y hk) (Qn_rv hb.y hk) (by omega))
  have q3 := Rn_cr.2 (Qn_mul (Qn_rv ha.z hk) (Qn_rv hb.z hk) (by omega))
  have g4 := sum3_good _ _ _ q1 q2 q3 (by omega) (by omega)
  rw [rv_cr, rv_cr, rv_cr] at g4
  have hV : vdot (vv a) (vv b) = rv a.x * rv b.x + rv a.y * rv b.y + rv a.z * rv b.z := rfl
  rw [hV]
  generalize Ψ .cr (rv a.x * rv b.x + rv a.y * rv b.y + rv a.z * rv b.z) = W at *
  generalize Ψ .cr (rv a.x * rv b.x) = X at *
  generalize Ψ .cr (rv a.y * rv b.y) = Y at *
  generalize Ψ .cr (rv a.z * rv b.z) = Z at *
  refine nx ?_
  refine ⟨_, hC _ _ _ g1, ?_⟩
  refine nx ?_
  refine ⟨_, hC _ _ _ g2, ?_⟩
  refine nx ?_
  refine ⟨_, hC _ _ _ g3, ?_⟩
  refine nx ?_
  refine ⟨_, hC _ _ _ g4, ?_⟩
  exact nx trivial
theorem minor_good (a b c d : RL) {k : Nat} (ha : Rn k a) (hb : Rn k b) (hc : Rn k c) (hd : Rn k d) (hk : 0 < k) (hk2 : k < 17179869184) :
    Good P F.vec_minor [.d (.agg (dR Ψ a)), .d (.agg (dR Ψ b)), .d (.agg (dR Ψ c)), .d (.agg (dR Ψ d))] [] (.d (.agg (dR Ψ (Ψ .cr (rv a * rv d - rv b * rv c))))) [] := by
  refine G.vec_minor fun C C2 hC hC2 => ?_
  have g1 := prod2_good a d ha hd hk hk2
  have g2 := prod2_good b c hb hc hk hk2
  have q1 := Rn_cr.2 (Qn_mul (Qn_rv ha hk) (Qn_rv hd hk) (by omega))
  have q2 := Rn_cr.2 (Qn_mul (Qn_rv hb hk) (Qn_rv hc hk) (by omega))
  have g4 := rsub_good _ _ q1 q2 (by omega) (by omega) (by omega) (by omega)
  rw [rv_cr, rv_cr] at g4
  generalize Ψ .cr (rv a * rv d - rv b * rv c) = W at *
  generalize Ψ .cr (rv a * rv d) = X at *
  generalize Ψ .cr (rv b * rv c) = Y at *
  refine nx ?_
  refine ⟨_, hC _ _ _ g1, ?_⟩
  refine nx ?_
  refine ⟨_, hC _ _ _ g2, ?_⟩
  refine nx ?_
  refine ⟨_, hC _ _ _ g4, ?_⟩
  exact nx trivial
theorem vcross_good (a b : VL) {k : Nat} (ha : Vn k a) (hb : Vn k b) (hk : 0 < k) (hk2 : k < 17179869184) :
    Good P F.vec_Cross [.d (.agg (dV Ψ a)), .d (.agg (dV Ψ b))] [] (.d (.agg (dV Ψ (Ψ .cV (vcross (vv a) (vv b)))))) [] := by
  refine G.vec_Cross fun C C2 hC hC2 => ?_
  have g1 := minor_good a.y a.z b.y b.z ha.y ha.z hb.y hb.z hk hk2
  have g2 := minor_good a.z a.x b.z b.x ha.z ha.x hb.z hb.x hk hk2
  have g3 := minor_good a.x a.y b.x b.y ha.x ha.y hb.x hb.y hk hk2
  have hV : Ψ .cV (vcross (vv a) (vv b)) = ⟨Ψ .cr (rv a.y * rv b.z - rv a.z * rv b.y), Ψ .cr (rv a.z * rv b.x - rv a.x * rv b.z), Ψ .cr (rv a.x * rv b.y - rv a.y * rv b.x)⟩ := rfl
  rw [hV]
  generalize Ψ .cr (rv a.y * rv b.z - rv a.z * rv b.y) = X at *
  generalize Ψ .cr (rv a.z * rv b.x - rv a.x * rv b.z) = Y at *
  generalize Ψ .cr (rv a.x * rv b.y - rv a.y * rv b.x) = Z at *
  refine nx ?_
  refine ⟨_, hC _ _ _ g1, ?_⟩
  refine nx ?_
  refine ⟨_, hC _ _ _ g2, ?_⟩
  refine nx ?_
  refine ⟨_, hC _ _ _ g3, ?_⟩
  exact nx trivial
end Go.K.S
end
