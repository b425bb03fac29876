/-
  Parts of the proof, joined by a program of this work: KTri, KRef, KRefAdd, KRefMul, KRefDouble, KRefDiv, KRef3, KRef5, KHit.
-/
import Derived.Test.YtjoimiljaljgcaaGreatMai
import Derived.Test.YtjoimiljaljgcaaGreatMah
import Derived.Test.YtjoimiljaljgcaaGreatMaa
set_option linter.unusedSimpArgs false
set_option linter.unusedVariables false
section
namespace Go.K.S
open Go Go.K
set_option maxHeartbeats 4000000
set_option maxRecDepth 20000
theorem vsum_good (l : List VL) {k : Nat} (hl : ∀ r, r ∈ l → Vn k r) (hk : 0 < k) (hs : (l.length + 1) * (k + 1) < 17179869184) :
    Good P F.vec_Sum [.d (.sl (Ψ .dVs l))] [] (.d (.agg (dV Ψ (Ψ .cV (vsum l))))) [] := by
  refine G.vec_Sum fun C C2 hC hC2 => ?_
  have hln : l.length < 17179869184 := by
    have := Nat.le_mul_of_pos_right (l.length + 1) (show 0 < k + 1 by omega)
    omega
  have hq : ∀ i, i ≤ l.length → Pn (i * (k + 1) + 1) (vsum (l.take i)) := fun i => by
    induction i with
    | zero => intro _; exact Pn_v0 (by omega)
    | succ i ih =>
      intro hi
      obtain ⟨r, hr⟩ : ∃ r, l[i]? = some r := ⟨_, List.getElem?_eq_getElem (by omega)⟩
      rw [take_succ_of hr, vsum_snoc]
      refine (Pn_add (ih (by omega)) (Pn_vv (hl r (List.mem_of_getElem? hr)) hk)).mono ?_
      rw [Nat.add_mul]; omega
  have hbd : ∀ i, i ≤ l.length → i * (k + 1) + 1 + k < 17179869184 := fun i hi => by
    have := Nat.mul_le_mul_right (k + 1) hi
    rw [Nat.add_mul] at hs
    omega
  have hst : ∀ i r, l[i]? = some r → vsum (l.take (i + 1)) = vadd (vsum (l.take i)) (vv r) := fun i r hr => by rw [take_succ_of hr, vsum_snoc]
  have hlast : vsum (l.take l.length) = vsum l := by rw [List.take_length]
  have hz : vsum (l.take 0) = v0 := rfl
  obtain ⟨R0, hR0⟩ : ∃ R, R = vsum l := ⟨_, rfl⟩
  rw [← hR0] at hlast ⊢
  obtain ⟨S, hS⟩ : ∃ S : Nat → V3, S = fun i => vsum (l.take i) := ⟨_, rfl⟩
  have hSe : ∀ i, vsum (l.take i) = S i := fun i => by rw [hS]
  simp only [hSe] at hq hst hlast hz
  clear hSe hS
  have g0 := vof_good 0 0 0 (by omega) (by omega) (by omega) (by omega) (by omega) (by omega)
  have e0 : (⟨((0 : Int) : Rat), ((0 : Int) : Rat), ((0 : Int) : Rat)⟩ : V3) = S 0 := by rw [hz]; rfl
  rw [e0] at g0
  refine nx ?_
  refine ⟨_, hC _ _ _ g0, ?_⟩
  refine nx ?_
  refine LoopG.intro (σ := Nat) [2, 3, 7, 8, 9] [1050, 1051]
      (fun i => [.ptr 1050 0, .ptr 1051 0, .d (.sl (Ψ .dVs l)), .d (.i .i64 (Ω .ci l.length)), .d (.i .i64 (Ω .ci i))])
      (fun i => [.var [.d (.b false), .nil, .nil, .d (.b false), .nil, .nil, .d (.b false), .nil, .nil], .var ((dV Ψ (Ψ .cV (S i))).map V.d)])
      (fun i => i ≤ l.length)
      (fun i => l.length - i) 0 [1000, 1101] (Nat.zero_le _) ⟨rfl, rfl, rfl⟩ ?_
  intro i hi
  have q := hq i hi
  have hb := hbd i hi
  refine nx ?_
  refine BrG.split (fun h => ?_) (fun h => ?_)
  · have hlen : i < l.length := by have := h; simp only [wz] at this; omega
    obtain ⟨r, hr⟩ : ∃ r, l[i]? = some r := ⟨_, List.getElem?_eq_getElem hlen⟩
    have hrn := hl r (List.mem_of_getElem? hr)
    have hsi := hst i r hr
    have qn := Vn_cV (q.mono (show _ ≤ i * (k + 1) + 1 + k by omega))
    have rn := hrn.mono (show k ≤ i * (k + 1) + 1 + k by omega)
    have g1 := sum2_good (Ψ .cV (S i)).x r.x qn.x rn.x (by omega) hb
    have g2 := sum2_good (Ψ .cV (S i)).y r.y qn.y rn.y (by omega) hb
    have g3 := sum2_good (Ψ .cV (S i)).z r.z qn.z rn.z (by omega) hb
    have e1 : rv (Ψ .cV (S i)).x + rv r.x = (S (i + 1)).x := by rw [hsi]; show rv (Ψ .cr _) + _ = _; rw [rv_cr]; rfl
    have e2 : rv (Ψ .cV (S i)).y + rv r.y = (S (i + 1)).y := by rw [hsi]; show rv (Ψ .cr _) + _ = _; rw [rv_cr]; rfl
    have e3 : rv (Ψ .cV (S i)).z + rv r.z = (S (i + 1)).z := by rw [hsi]; show rv (Ψ .cr _) + _ = _; rw [rv_cr]; rfl
    rw [e1] at g1
    rw [e2] at g2
    rw [e3] at g3
    refine nx ?_
    refine idx_dVs i r rfl hr rfl ?_
    refine nx ?_
    refine ⟨_, hC _ _ _ g1, ?_⟩
    refine nx ?_
    refine ⟨_, hC _ _ _ g2, ?_⟩
    refine nx ?_
    refine ⟨_, hC _ _ _ g3, ?_⟩
    refine nx ?_
    refine ⟨i + 1, [1050, 1051], hlen, by omega, rfl, ?_, rfl⟩
    refine Eq.trans (b := [.ptr 1050 0, .ptr 1051 0, .d (.sl (Ψ .dVs l)), .d (.i .i64 (Ω .ci l.length)), .d (.i .i64 _)]) rfl ?_
    rw [wrap_succ (by omega)]
  · have hlen : i = l.length := by have := h; simp only [wz] at this; omega
    rw [← hlen] at hlast
    subst hlast
    exact nx trivial
theorem vsum2_good (a b : VL) {k : Nat} (ha : Vn k a) (hb : Vn k b) (hk : 0 < k) (hk2 : k < 4294967296) :
    Good P F.vec_Sum [.d (.sl [.agg (dV Ψ a), .agg (dV Ψ b)])] [] (.d (.agg (dV Ψ (Ψ .cV (vadd (vv a) (vv b)))))) [] := by
  have := vsum_good [a, b] (k := k) (fun r h => by rcases mem2 h with rfl | rfl <;> assumption) hk (by simp only [List.length_cons, List.length_nil]; omega)
  rw [vsum2] at this
  exact this
theorem at_good (o d : VL) (s : RL) {k : Nat} (ho : Vn k o) (hd : Vn k d) (hs : Rn k s) (hk : 0 < k) (hk2 : k < 2147483648) :
    Good P F.tri_At [.d (.agg (dV Ψ o)), .d (.agg (dV Ψ d)), .d (.agg (dR Ψ s))] [] (.d (.agg (dV Ψ (Ψ .cV (vadd (vv o) (vmul (rv s) (vv d))))))) [] := by
  refine G.tri_At fun C C2 hC hC2 => ?_
  have g1 := vscale_good s d hs hd hk (by omega)
  have q1 := Vn_cV (Pn_mul (Qn_rv hs hk) (Pn_vv hd hk) (by omega))
  have g2 := vsum2_good o (Ψ .cV (vmul (rv s) (vv d))) (ho.mono (show k ≤ k + k by omega)) q1 (by omega) (by omega)
  rw [vv_cV] at g2
  generalize Ψ .cV (vadd (vv o) (vmul (rv s) (vv d))) = W at *
  generalize Ψ .cV (vmul (rv s) (vv d)) = X at *
  refine nx ?_
  refine ⟨_, hC _ _ _ g1, ?_⟩
  refine nx ?_
  refine ⟨_, hC _ _ _ g2, ?_⟩
  exact nx trivial
end Go.K.S
end
section
namespace Go.K
theorem scat_nil (l : List D) : Ω .scat [] l = l := rfl
theorem imax_ci (a b : Nat) : Ω .imax (Ω .ci a) (Ω .ci b) = Ω .ci (max a b) := by
  simp only [w_imax, w_ci]
  by_cases h : a < b
  · rw [if_pos (by omega), Nat.max_eq_right (by omega)]
  · rw [if_neg (by omega), Nat.max_eq_left (by omega)]
theorem getD_take_drop {l : List Nat} (k : Nat) : nv (l.drop k) = l.getD k 0 + 4294967296 * nv (l.drop (k + 1)) := by
  rcases Nat.lt_or_ge k l.length with h | h
  · rw [nv_drop (List.getElem?_eq_getElem h)]; simp [List.getD, h]
  · rw [List.drop_of_length_le h, List.drop_of_length_le (by omega)]; simp [List.getD, h]
theorem nv_lt_of' {x y : List Nat} {k : Nat} (hx : lim x) (hd : nv (x.drop (k + 1)) = nv (y.drop (k + 1))) (h : x.getD k 0 < y.getD k 0) : nv x < nv y := by
  have e1 : nv x = nv (x.take k) + 4294967296 ^ k * nv (x.drop k) := by
    rcases Nat.lt_or_ge k x.length with q | q
    · exact nv_split x k (by omega)
    · rw [List.take_of_length_le q, List.drop_of_length_le q]; simp
  have ky : k < y.length := by
    rcases Nat.lt_or_ge k y.length with q | q
    · exact q
    · rw [show y.getD k 0 = 0 by simp [List.getD, q]] at h; omega
  rw [e1, nv_split y k (by omega), getD_take_drop, getD_take_drop k, hd]
  have h1 : nv (x.take k) < 4294967296 ^ k := by
    refine Nat.lt_of_lt_of_le (nv_lt (lim_take hx k)) (Nat.pow_le_pow_right (by omega) ?_)
    rw [List.length_take]; omega
  generalize 4294967296 ^ k = M at *
  generalize nv (y.drop (k + 1)) = d
  have h2 := Nat.mul_le_mul_left M (show x.getD k 0 + 4294967296 * d + 1 ≤ y.getD k 0 + 4294967296 * d by omega)
  rw [Nat.mul_add, Nat.mul_one] at h2
  omega
end Go.K
namespace Go.K.S
open Go Go.K
set_option maxHeartbeats 1000000
theorem norm1_good (l : List Nat) (h : N l) : Good P F.penumbraref01_Norm [.d (dN Ψ l)] [] (.d (dN Ψ (Ψ .cn (nv l)))) [] := by
  refine G.penumbraref01_Norm fun C C2 hC hC2 => ?_
  have hl := h.lim
  have hb := h.len
  refine nx ?_
  refine LoopG.intro (σ := Nat) [0, 3] [] (fun n => [.d (dN Ψ l), .d (.i .i64 (Ω .ci n))]) (fun _ => []) (fun n => n ≤ l.length ∧ nv (l.take n) = nv l) (fun n => n) l.length [] ⟨Nat.le_refl _, by simp⟩ ⟨rfl, rfl, rfl⟩ ?_
  rintro n ⟨hn, he⟩
  have fin : n = 0 ∨ cano (l.take n) → Ω .ssub (Ψ .lims l) 0 n = Ψ .lims (Ψ .cn (nv l)) := fun h => by
    rw [ssub_lims', List.drop_zero]
    rcases h with rfl | h
    · rw [← he, List.take_zero, nv_nil, cn_zero]
    · have := cn_cano _ (lim_take hl n) h
      rw [he] at this
      rw [this]
  refine nx ?_
  refine BrG.split (fun h => ?_) (fun h => ?_)
  · refine nx ?_
    simp [wz] at h
    obtain ⟨v, hv⟩ : ∃ v, l[n - 1]? = some v := ⟨_, List.getElem?_eq_getElem (by omega)⟩
    refine idx_lims (n - 1) v (wrap_pred h (by omega)) hv rfl ?_
    refine nx ?_
    have hs := nv_take_succ hv
    have hn1 : n - 1 + 1 = n := by omega
    rw [hn1] at hs
    refine BrG.split (fun h => ?_) (fun h => ?_)
    · refine nx ?_
      simp [wz] at h
      refine ⟨n - 1, [], ⟨by omega, by rw [h] at hs; omega⟩, by omega, rfl, ?_, rfl⟩
      rw [← wrap_pred (by omega) (by omega)]; rfl
    · refine nx ?_
      simp [wz] at h
      refine ⟨ci_nonneg _, by simp only [wz]; omega, by simp only [wz]; omega, (by first | exact rfl | exact fun _ => rfl), ?_⟩
      rw [show Ω .nsub n 0 = n from rfl, fin (.inr (by rw [← hn1]; exact cano_take hv h))]
      have hc := len_cn_nv hl
      refine ⟨lims_cells l, lims_cells _, by simp only [wz]; omega, ?_⟩
      rw [scat_nil]
  · refine nx ?_
    simp [wz] at h
    subst h
    rw [show Ω .nsub 0 0 = 0 from rfl, fin (.inl rfl)]
    have hc := len_cn_nv hl
    refine ⟨ci_nonneg _, by simp only [wz]; omega, Int.le_refl _, (by first | exact rfl | exact fun _ => rfl), lims_cells l, lims_cells _, by simp only [wz]; omega, ?_⟩
    rw [scat_nil]
theorem same1_good (a b : List Nat) (hal : a.length < 1099511627776) (hbl : b.length < 1099511627776) : Good P F.penumbraref01_Same [.d (dN Ψ a), .d (dN Ψ b)] [] (.d (.b (decide (a = b)))) [] := by
  refine G.penumbraref01_Same fun C C2 hC hC2 => ?_
  generalize hr : decide (a = b) = r
  refine nx ?_
  refine BrG.split (fun h => ?_) (fun h => ?_)
  · have hne : a.length ≠ b.length := by have := h; simp only [wz] at this ⊢; omega
    have : r = false := by rw [← hr]; exact decide_eq_false (fun q => hne (by rw [q]))
    subst this
    exact nx trivial
  · have he : a.length = b.length := by have := h; simp only [wz] at this ⊢; omega
    refine nx ?_
    refine LoopG.intro (σ := Nat) [0, 1, 5] [] (fun k => [.d (dN Ψ a), .d (dN Ψ b), .d (.i .i64 (Ω .ci k))]) (fun _ => []) (fun k => k ≤ a.length ∧ a.take k = b.take k) (fun k => a.length - k) 0 []
      ⟨Nat.zero_le _, rfl⟩ ⟨rfl, rfl, rfl⟩ ?_
    rintro k ⟨hk, hd⟩
    refine nx ?_
    refine BrG.split (fun h => ?_) (fun h => ?_)
    · have hk0 : k < a.length := by have := h; simp only [wz] at this; omega
      obtain ⟨u, hu⟩ : ∃ u, a[k]? = some u := ⟨_, List.getElem?_eq_getElem (by omega)⟩
      obtain ⟨v, hv⟩ : ∃ v, b[k]? = some v := ⟨_, List.getElem?_eq_getElem (by omega)⟩
      refine nx ?_
      refine idx_lims k u rfl hu rfl ?_
      refine nx ?_
      refine idx_lims k v rfl hv rfl ?_
      refine nx ?_
      refine BrG.split (fun h => ?_) (fun h => ?_)
      · have huv : u ≠ v := by have := h; simp only [wz] at this ⊢; omega
        have : r = false := by
          rw [← hr]
          refine decide_eq_false (fun q => huv ?_)
          rw [q, hv] at hu
          exact (Option.some.inj hu).symm
        subst this
        exact nx trivial
      · have huv : u = v := by have := h; simp only [wz] at this ⊢; omega
        subst huv
        refine nx ?_
        refine ⟨k + 1, [], ⟨hk0, ?_⟩, by omega, rfl, ?_, rfl⟩
        · rw [List.take_add_one, List.take_add_one, hd, hu, hv]
        · refine Eq.trans (b := [V.d (dN Ψ a), V.d (dN Ψ b), V.d (.i .i64 _)]) rfl ?_
          rw [wrap_succ (by omega)]
    · have hk0 : k = a.length := by have := h; simp only [wz] at this; omega
      subst hk0
      have : r = true := by
        rw [← hr]
        refine decide_eq_true ?_
        rw [List.take_length, he, List.take_length] at hd
        exact hd
      subst this
      exact nx trivial
theorem of1_good (n : Nat) (h : n < 18446744073709551616) : Good P F.penumbraref01_Of [.d (.i .u64 (Ω .ci n))] [] (.d (dN Ψ (Ψ .cn n))) [] := by
  refine G.penumbraref01_Of fun C C2 hC hC2 => ?_
  have hl : lim [n % 4294967296, n / 4294967296] := by simp [lim_cons, lim_nil]; omega
  have hv : nv [n % 4294967296, n / 4294967296] = n := by simp; omega
  have hg := norm1_good [n % 4294967296, n / 4294967296] ⟨hl, by simp⟩
  rw [hv] at hg
  refine nx ?_
  rw [ishr32, wrapu32_ci, wrapu32_ci, show n / 4294967296 % 4294967296 = n / 4294967296 by omega]
  refine ⟨_, hC _ _ _ hg, ?_⟩
  exact nx trivial
theorem limb1_good (l : List Nat) (k : Nat) (h : N l) : Good P F.penumbraref01_limb [.d (dN Ψ l), .d (.i .i64 (Ω .ci k))] [] (.d (.i .u64 (Ω .ci (l.getD k 0)))) [] := by
  refine G.penumbraref01_limb fun C C2 hC hC2 => ?_
  have hgl := getD_lt h.lim k
  generalize hr : l.getD k 0 = r at *
  refine nx ?_
  refine BrG.split (fun h => ?_) (fun h => ?_)
  · have hk0 : k < l.length := by have := h; simp only [wz] at this; omega
    have hu : l[k]? = some r := by rw [← hr]; simp [List.getD, hk0]
    refine nx ?_
    refine idx_lims k r rfl hu rfl ?_
    refine nx ?_
    rw [wrapu64_ci, Nat.mod_eq_of_lt (by omega)]
  · have hk0 : l.length ≤ k := by have := h; simp only [wz] at this; omega
    have : r = 0 := by rw [← hr]; simp [List.getD, hk0]
    subst this
    refine nx ?_
    rfl
theorem cmp1_good (a b : List Nat) (ha : N a) (hb : N b) : Good P F.penumbraref01_Cmp [.d (dN Ψ a), .d (dN Ψ b)] [] (.d (.i .i64 (Ψ .cmpI (nv a) (nv b)))) [] := by
  refine G.penumbraref01_Cmp fun C C2 hC hC2 => ?_
  have hal := ha.len
  have hbl := hb.len
  generalize hr : Ψ .cmpI (nv a) (nv b) = r
  obtain ⟨m, hm⟩ : ∃ m, m = max a.length b.length := ⟨_, rfl⟩
  have hma : a.length ≤ m := by omega
  have hmb : b.length ≤ m := by omega
  refine nx ?_
  rw [imax_ci, ← hm]
  refine LoopG.intro (σ := Nat) [0, 1, 5] [] (fun k => [.d (dN Ψ a), .d (dN Ψ b), .d (.i .i64 (Ω .wrap .i64 (Ω .ci k - 1)))]) (fun _ => []) (fun k => k ≤ m ∧ nv (a.drop k) = nv (b.drop k)) (fun k => k) m []
    ⟨Nat.le_refl _, by rw [List.drop_of_length_le hma, List.drop_of_length_le hmb]⟩ ⟨rfl, ?_, rfl⟩ ?_
  · refine Eq.trans (b := [V.d (dN Ψ a), V.d (dN Ψ b), V.d (.i .i64 _)]) rfl ?_
    rfl
  rintro k ⟨hk, hd⟩
  refine nx ?_
  refine BrG.split (fun h => ?_) (fun h => ?_)
  · rw [wrap64 (by simp only [wz]; omega) (by simp only [wz]; omega)] at h
    have hk0 : 0 < k := by have := h; simp only [wz] at this; omega
    obtain ⟨j, rfl⟩ : ∃ j, k = j + 1 := ⟨k - 1, by omega⟩
    have hk1 : Ω .wrap .i64 (Ω .ci (j + 1) - 1) = Ω .ci j := wrap_pred (by omega) (by omega)
    rw [hk1]
    have g1 := limb1_good a j ha
    have g2 := limb1_good b j hb
    have h1 := getD_take_drop (l := a) j
    have h2 := getD_take_drop (l := b) j
    have h3 : a.getD j 0 < b.getD j 0 → nv a < nv b := nv_lt_of' ha.lim hd
    have h4 : b.getD j 0 < a.getD j 0 → nv b < nv a := nv_lt_of' hb.lim hd.symm
    generalize a.getD j 0 = u at *
    generalize b.getD j 0 = v at *
    refine nx ?_
    refine ⟨_, hC _ _ _ g1, ?_⟩
    refine nx ?_
    refine ⟨_, hC _ _ _ g2, ?_⟩
    refine nx ?_
    refine BrG.split (fun h => ?_) (fun h => ?_)
    · have huv : u < v := by have := h; simp only [wz] at this; omega
      have : r = -1 := by rw [← hr]; simp only [p_cmpI, h3 huv, if_true]
      subst this
      exact nx trivial
    · have huv : ¬ u < v := by have := h; simp only [wz] at this; omega
      refine nx ?_
      refine BrG.split (fun h => ?_) (fun h => ?_)
      · have hvu : v < u := by have := h; simp only [wz] at this; omega
        have : r = 1 := by
          have := h4 hvu
          rw [← hr]; simp only [p_cmpI, this, if_true, if_neg (show ¬ nv a < nv b by omega)]
        subst this
        exact nx trivial
      · have hvu : ¬ v < u := by have := h; simp only [wz] at this; omega
        refine nx ?_
        refine ⟨j, [], ⟨by omega, by omega⟩, by omega, rfl, ?_, rfl⟩
        refine Eq.trans (b := [V.d (dN Ψ a), V.d (dN Ψ b), V.d (.i .i64 _)]) rfl ?_
        rfl
  · rw [wrap64 (by simp only [wz]; omega) (by simp only [wz]; omega)] at h
    have hk0 : k = 0 := by have := h; simp only [wz] at this; omega
    subst hk0
    have hab : nv a = nv b := by simpa using hd
    have : r = 0 := by rw [← hr, hab]; simp only [p_cmpI, if_neg (Nat.lt_irrefl _)]
    subst this
    exact nx trivial
theorem zero1_good (a : List Nat) (ha : N a) : Good P F.penumbraref01_Zero [.d (dN Ψ a)] [] (.d (.b (decide (nv a = 0)))) [] := by
  refine G.penumbraref01_Zero fun C C2 hC hC2 => ?_
  generalize hr : decide (nv a = 0) = r
  refine nx ?_
  refine ⟨_, hC _ _ _ (cmp1_good a [] ha N_nil), ?_⟩
  refine nx ?_
  have e : Ω .eq (Ψ .cmpI (nv a) (nv [])) 0 = r := by rw [← hr]; exact decide_eq_decide.2 cmpI_zero
  rw [e]
  cases r
  · exact nx trivial
  · exact nx trivial
end Go.K.S
end
section
namespace Go.K
theorem tdivB (a : Nat) : (Ω .ci a).tdiv 4294967296 = Ω .ci (a / 4294967296) := tdiv_ci a 4294967296
theorem tmodB (a : Nat) : Ω .tmod (Ω .ci a) 4294967296 = Ω .ci (a % 4294967296) := tmod_ci a 4294967296
theorem tdiv2 (a : Nat) : (Ω .ci a).tdiv 2 = Ω .ci (a / 2) := tdiv_ci a 2
theorem tmod2 (a : Nat) : Ω .tmod (Ω .ci a) 2 = Ω .ci (a % 2) := tmod_ci a 2
end Go.K
namespace Go.K.S
open Go Go.K
set_option maxHeartbeats 2000000
theorem add1_good (a b : List Nat) (ha : N a) (hb : N b) (hal : a.length < 549755813888) (hbl : b.length < 549755813888) : Good P F.penumbraref01_Add [.d (dN Ψ a), .d (dN Ψ b)] [] (.d (dN Ψ (Ψ .cn (nv a + nv b)))) [] := by
  refine G.penumbraref01_Add fun C C2 hC hC2 => ?_
  obtain ⟨m, hm⟩ : ∃ m, m = max a.length b.length := ⟨_, rfl⟩
  have hma : a.length ≤ m := by omega
  have hmb : b.length ≤ m := by omega
  have hml : m < 549755813888 := by omega
  refine nx ?_
  refine LoopG.intro (σ := Nat × List Nat × Nat) [0, 1, 5, 6, 7] [1050]
      (fun s => [.d (dN Ψ a), .d (dN Ψ b), .own 1050 1, .d (.i .u64 (Ω .ci s.2.2)), .d (.i .i64 (Ω .ci s.1))])
      (fun s => [.row true T.uint32 1 (Ψ .lims s.2.1)])
      (fun s => s.1 ≤ m ∧ s.2.1.length = s.1 ∧ lim s.2.1 ∧ s.2.2 ≤ 1 ∧ nv s.2.1 + 4294967296 ^ s.1 * s.2.2 = nv (a.take s.1) + nv (b.take s.1))
      (fun s => m - s.1) (0, [], 0) [1100] ⟨Nat.zero_le _, rfl, lim_nil, Nat.zero_le _, by simp⟩ ⟨rfl, rfl, rfl⟩ ?_
  rintro ⟨i, z, c⟩ ⟨hi, hzl, hzn, hc, he⟩
  simp only at hi hzl hzn hc he
  have g1 := limb1_good a i ha
  have g2 := limb1_good b i hb
  have h1 := nv_take_succ' a i
  have h2 := nv_take_succ' b i
  have l1 := getD_lt ha.lim i
  have l2 := getD_lt hb.lim i
  generalize a.getD i 0 = u at *
  generalize b.getD i 0 = v at *
  have fin : i + 1 ≤ m → (i + 1 ≤ m ∧ (z ++ [(u + v + c) % 4294967296]).length = i + 1 ∧ lim (z ++ [(u + v + c) % 4294967296]) ∧ (u + v + c) / 4294967296 ≤ 1 ∧
          nv (z ++ [(u + v + c) % 4294967296]) + 4294967296 ^ (i + 1) * ((u + v + c) / 4294967296) = nv (a.take (i + 1)) + nv (b.take (i + 1))) := fun hi2 => by
    refine ⟨hi2, by simp [hzl], lim_append.2 ⟨hzn, by simp [lim_cons, lim_nil]; omega⟩, by omega, ?_⟩
    rw [nv_snoc, hzl, h1, h2, Nat.pow_succ]
    exact add_step he
  refine nx ?_
  refine BrG.split (fun h => ?_) (fun h => ?_)
  focus
    have hi2 : i + 1 ≤ m := by have := h; simp only [wz] at this; omega
    refine nx ?_
  rotate_left
  focus
    have hia : a.length ≤ i := by have := h; simp only [wz] at this; omega
    refine nx ?_
    refine BrG.split (fun h => ?_) (fun h => ?_)
    focus
      have hi2 : i + 1 ≤ m := by have := h; simp only [wz] at this; omega
      refine nx ?_
    rotate_left
    focus
      have hi2 : i = m := by have := h; simp only [wz] at this; omega
      subst hi2
      rw [List.take_of_length_le hma, List.take_of_length_le hmb, ← hzl, ← nv_snoc] at he
      have hg := norm1_good (z ++ [c]) ⟨lim_append.2 ⟨hzn, by simp [lim_cons, lim_nil]; omega⟩, by simp; omega⟩
      rw [he] at hg
      refine nx ?_
      rw [wrapu32_ci, Nat.mod_eq_of_lt (by omega)]
      refine ⟨cells_one _ _, (by simp only [wz]; omega), ?_⟩
      rw [scat_snoc]
      refine ⟨_, hC _ _ _ hg, ?_⟩
      exact nx trivial
  all_goals
    refine ⟨_, hC _ _ _ g1, ?_⟩
    refine nx ?_
    refine ⟨_, hC _ _ _ g2, ?_⟩
    refine nx ?_
    have hw : Ω .wrap .u64 (Ω .wrap .u64 (Ω .ci u + Ω .ci v) + Ω .ci c) = Ω .ci (u + v + c) := by
      rw [ci_add, wrapu64_ci, ci_add, wrapu64_ci, Nat.mod_eq_of_lt (by omega), Nat.mod_eq_of_lt (by omega)]
    rw [hw, tmodB, tdivB, wrapu32_ci, Nat.mod_mod, wrapu64_ci, Nat.mod_eq_of_lt (show (u + v + c) / 4294967296 < 18446744073709551616 by omega)]
    refine ⟨cells_one _ _, (by simp only [wz]; omega), (i + 1, z ++ [(u + v + c) % 4294967296], (u + v + c) / 4294967296), [1705], fin hi2, by simp only; omega, rfl, ?_, ?_⟩
    · refine Eq.trans (b := [.d (dN Ψ a), .d (dN Ψ b), .own 1050 1, .d (.i .u64 (Ω .ci _)), .d (.i .i64 _)]) rfl ?_
      rw [wrap_succ (by omega)]
    · refine Eq.trans (b := [.row true T.uint32 1 _]) rfl ?_
      rw [scat_snoc]
theorem sub1_good (a b : List Nat) (ha : N a) (hb : N b) (hal : a.length < 549755813888) (h : nv b ≤ nv a) : Good P F.penumbraref01_Sub [.d (dN Ψ a), .d (dN Ψ b)] [] (.tup [.d (dN Ψ (Ψ .cn (nv a - nv b))), .d (.b true)]) [] := by
  refine G.penumbraref01_Sub fun C C2 hC hC2 => ?_
  refine nx ?_
  refine ⟨_, hC _ _ _ (cmp1_good a b ha hb), ?_⟩
  refine nx ?_
  refine BrG.split (fun h => ?_) (fun h => ?_)
  · have := cmpI_neg.1 (of_decide_eq_true h)
    omega
  refine nx ?_
  refine LoopG.intro (σ := Nat × List Nat × Nat) [0, 1, 6, 7, 8] [1050]
      (fun s => [.d (dN Ψ a), .d (dN Ψ b), .own 1050 1, .d (.i .u64 (Ω .ci s.2.2)), .d (.i .i64 (Ω .ci s.1))])
      (fun s => [.row true T.uint32 1 (Ψ .lims s.2.1)])
      (fun s => s.1 ≤ a.length ∧ s.2.1.length = s.1 ∧ lim s.2.1 ∧ s.2.2 ≤ 1 ∧ nv s.2.1 + nv (b.take s.1) = nv (a.take s.1) + 4294967296 ^ s.1 * s.2.2)
      (fun s => a.length - s.1) (0, [], 0) [1300] ⟨Nat.zero_le _, rfl, lim_nil, Nat.zero_le _, by simp⟩ ⟨rfl, rfl, rfl⟩ ?_
  rintro ⟨i, z, c⟩ ⟨hi, hzl, hzn, hc, he⟩
  simp only at hi hzl hzn hc he
  have g1 := limb1_good a i ha
  have g2 := limb1_good b i hb
  have h1 := nv_take_succ' a i
  have h2 := nv_take_succ' b i
  have l1 := getD_lt ha.lim i
  have l2 := getD_lt hb.lim i
  generalize a.getD i 0 = u at *
  generalize b.getD i 0 = v at *
  refine nx ?_
  refine BrG.split (fun h => ?_) (fun h => ?_)
  · have hi2 : i + 1 ≤ a.length := by have := h; simp only [wz] at this; omega
    refine nx ?_
    refine ⟨_, hC _ _ _ g1, ?_⟩
    refine nx ?_
    refine ⟨_, hC _ _ _ g2, ?_⟩
    refine nx ?_
    obtain ⟨d, hd⟩ : ∃ d, d = 4294967296 + u - v - c := ⟨_, rfl⟩
    have hw : Ω .wrap .u64 (Ω .wrap .u64 (Ω .wrap .u64 (4294967296 + Ω .ci u) - Ω .ci v) - Ω .ci c) = Ω .ci d := by
      rw [wrapu64, wrapu64, wrapu64]; simp only [wz]; omega
    have hq : d / 4294967296 ≤ 1 := by omega
    have hb2 : Ω .wrap .u64 (1 - Ω .wrap .u64 (Ω .ci (d / 4294967296))) = Ω .ci (1 - d / 4294967296) := by
      rw [wrapu64, wrapu64]; simp only [wz]; omega
    rw [hw, tmodB, tdivB, wrapu32_ci, Nat.mod_mod]
    refine ⟨cells_one _ _, (by simp only [wz]; omega), (i + 1, z ++ [d % 4294967296], 1 - d / 4294967296), [1905], ⟨hi2, by simp [hzl], lim_append.2 ⟨hzn, by simp [lim_cons, lim_nil]; omega⟩, by simp only; omega, ?_⟩, by simp only; omega, rfl, ?_, ?_⟩
    · simp only
      rw [nv_snoc, hzl, h1, h2, Nat.pow_succ]
      have := sub_step (d := d % 4294967296) (c' := 1 - d / 4294967296) (x := u) (y := v) he (by omega)
      omega
    · refine Eq.trans (b := [.d (dN Ψ a), .d (dN Ψ b), .own 1050 1, .d (.i .u64 _), .d (.i .i64 _)]) rfl ?_
      rw [wrap_succ (by omega), hb2]
    · refine Eq.trans (b := [.row true T.uint32 1 _]) rfl ?_
      rw [scat_snoc]
  · have hi2 : i = a.length := by have := h; simp only [wz] at this; omega
    subst hi2
    rw [List.take_length] at he
    have hbs : nv b = nv (b.take a.length) := by
      rcases Nat.lt_or_ge a.length b.length with q | q
      · have h3 := nv_split b a.length (by omega)
        have h4 := nv_lt ha.lim
        rcases Nat.eq_zero_or_pos (nv (b.drop a.length)) with q0 | q0
        · rw [q0] at h3; omega
        · have := Nat.mul_le_mul_left (4294967296 ^ a.length) q0
          omega
      · rw [List.take_of_length_le q]
    have hzl' := nv_lt hzn
    rw [hzl] at hzl'
    have hc0 : c = 0 := by
      rcases Nat.eq_zero_or_pos c with q | q
      · exact q
      · have : c = 1 := by omega
        subst this
        omega
    subst hc0
    have hz : nv z = nv a - nv b := by omega
    have hg := norm1_good z ⟨hzn, by omega⟩
    rw [hz] at hg
    refine nx ?_
    refine ⟨_, hC _ _ _ hg, ?_⟩
    exact nx trivial
end Go.K.S
end
section
namespace Go.K.S
open Go Go.K
set_option maxHeartbeats 2000000
theorem mul1_good (p q : List Nat) (ha : N p) (hb : N q) (hpl : p.length < 274877906944) (hql : q.length < 274877906944) : Good P F.penumbraref01_Mul [.d (dN Ψ p), .d (dN Ψ q)] [] (.d (dN Ψ (Ψ .cn (nv p * nv q)))) [] := by
  refine G.penumbraref01_Mul fun C C2 hC hC2 => ?_
  have hpn := ha.lim
  have hqn := hb.lim
  refine nx ?_
  rw [wrap_add (by omega), wrap_succ (by omega)]
  refine ⟨ci_nonneg _, Int.le_refl _, by simp only [wz]; omega, by simp only [wz]; omega, ?_⟩
  refine LoopG.intro (σ := Nat × List Nat) [0, 1, 5, 6] [1050]
    (fun s => [.d (dN Ψ p), .d (dN Ψ q), .own 1050 1, .d (.i .i64 (Ω .ci s.1))])
    (fun s => [.row true T.uint32 1 (Ψ .lims s.2)])
    (fun s => s.1 ≤ p.length ∧ s.2.length = p.length + q.length + 1 ∧ lim s.2 ∧ nv (s.2.drop (s.1 + q.length)) = 0 ∧ nv (s.2.take (s.1 + q.length)) = nv (p.take s.1) * nv q)
    (fun s => p.length - s.1) (0, List.replicate (p.length + q.length + 1) 0) [1106] ⟨Nat.zero_le _, by simp, lim_rep _, by simp only [List.drop_replicate, nv_rep], by simp [nv_rep]⟩ ⟨rfl, rfl, ?_⟩ ?_
  · refine Eq.trans (b := [.row true T.uint32 1 _]) rfl ?_
    rw [← srep_lims]
    rfl
  rintro ⟨i, z⟩ ⟨hi, hzl, hzn, hz0, he⟩
  simp only at hi hzl hzn hz0 he
  refine nx ?_
  refine BrG.split (fun h => ?_) (fun h => ?_)
  · have hi2 : i < p.length := by have := h; simp only [wz] at this; omega
    obtain ⟨u, hu⟩ : ∃ u, p[i]? = some u := ⟨_, List.getElem?_eq_getElem hi2⟩
    have hul := lim_get hpn hu
    refine nx ?_
    refine LoopG.intro (σ := Nat × List Nat × Nat) [0, 1, 5, 6, 7, 8] [1051]
      (fun s => [.d (dN Ψ p), .d (dN Ψ q), .own 1051 1, .d (.i .i64 (Ω .ci i)), .d (.i .u64 (Ω .ci s.2.2)), .d (.i .i64 (Ω .ci s.1))])
      (fun s => [.row true T.uint32 1 (Ψ .lims s.2.1)])
      (fun s => s.1 ≤ q.length ∧ s.2.1.length = p.length + q.length + 1 ∧ lim s.2.1 ∧ s.2.2 < 4294967296 ∧ s.2.1.drop (i + q.length) = z.drop (i + q.length) ∧ nv (s.2.1.take (i + q.length)) + 4294967296 ^ (i + s.1) * s.2.2 = nv (z.take (i + q.length)) + 4294967296 ^ i * u * nv (q.take s.1))
      (fun s => q.length - s.1) (0, z, 0) [1050] ⟨Nat.zero_le _, hzl, hzn, by simp only; omega, rfl, by simp⟩ ⟨rfl, rfl, rfl⟩ ?_
    rintro ⟨k, w, c⟩ ⟨hk, hwl, hwn, hc, hwd, hw⟩
    simp only at hk hwl hwn hc hwd hw
    refine nx ?_
    refine BrG.split (fun h => ?_) (fun h => ?_)
    · have hk2 : k < q.length := by have := h; simp only [wz] at this; omega
      obtain ⟨v, hv⟩ : ∃ v, q[k]? = some v := ⟨_, List.getElem?_eq_getElem hk2⟩
      obtain ⟨o, ho⟩ : ∃ o, w[i + k]? = some o := ⟨_, List.getElem?_eq_getElem (by omega)⟩
      have hvl := lim_get hqn hv
      have hol := lim_get hwn ho
      refine nx ?_
      refine idx_lims i u rfl hu rfl ?_
      refine nx ?_
      refine idx_lims k v rfl hv rfl ?_
      refine nx ?_
      have hix : Ω .wrap .i64 (Ω .ci i + Ω .ci k) = Ω .ci (i + k) := wrap_add (by omega)
      refine own_lims (i + k) o hix ho ?_ ?_ ?_
      · exact Nat.le_refl _
      · exact rfl
      refine nx ?_
      rw [hix, wrapu64_ci, wrapu64_ci, wrapu64_ci, ci_mul, wrapu64_ci, ci_add, wrapu64_ci, ci_add, wrapu64_ci]
      have hfit := mul_fits hul hvl hol hc
      have ht : ((u % 18446744073709551616 * (v % 18446744073709551616) % 18446744073709551616 + o % 18446744073709551616) % 18446744073709551616 + c) % 18446744073709551616 = u * v + o + c := by
        rw [Nat.mod_eq_of_lt (show u < 18446744073709551616 by omega), Nat.mod_eq_of_lt (show v < 18446744073709551616 by omega)]
        omega
      rw [ht, tmodB, tdivB]
      refine ⟨ci_nonneg _, by simp only [wz]; omega, by simp only [wz]; omega, (k + 1, w.set (i + k) ((u * v + o + c) % 4294967296), (u * v + o + c) / 4294967296), [1051], ⟨hk2, by simp [hwl], lim_set hwn _ (by omega), by simp only; omega, ?_, ?_⟩, by simp only; omega, rfl, ?_, ?_⟩
      · simp only
        rw [List.drop_set_of_lt (by omega), hwd]
      · simp only
        rw [List.take_set, nv_take_succ hv]
        have ho' : (w.take (i + q.length))[i + k]? = some o := by rw [List.getElem?_take, if_pos (by omega)]; exact ho
        have hz := nv_set ho' ((u * v + o + c) % 4294967296)
        have := mul_step (b := 4294967296 ^ i) (B' := 4294967296 ^ k) (M := 4294967296 ^ (i + k)) rfl hw hz ⟨_, Nat.pow_add _ _ _⟩ (Nat.pow_add _ _ _)
        rw [show i + (k + 1) = (i + k) + 1 by omega, Nat.pow_succ]
        exact this
      · refine Eq.trans (b := [.d (dN Ψ p), .d (dN Ψ q), .own 1051 1, .d (.i .i64 (Ω .ci i)), .d (.i .u64 _), .d (.i .i64 _)]) rfl ?_
        rw [wrap_succ (by omega), wrapu64_ci, Nat.mod_eq_of_lt (Nat.lt_of_le_of_lt (Nat.div_le_self _ _) hfit)]
      · refine Eq.trans (b := [.row true T.uint32 1 _]) rfl ?_
        rw [tn_ci, wrapu32_ci, Nat.mod_mod, sset_lims]
    · have hk2 : k = q.length := by have := h; simp only [wz] at this; omega
      subst hk2
      refine nx ?_
      rw [wrap_add (by omega)]
      rw [List.take_length] at hw
      obtain ⟨o, ho⟩ : ∃ o, w[i + q.length]? = some o := ⟨_, List.getElem?_eq_getElem (by omega)⟩
      refine ⟨ci_nonneg _, by simp only [wz]; omega, by simp only [wz]; omega, (i + 1, w.set (i + q.length) c, ), [1051], ⟨hi2, by simp [hwl], lim_set hwn _ hc, ?_, ?_⟩, by simp only; omega, rfl, ?_, ?_⟩
      · simp only
        rw [List.drop_set_of_lt (by omega), show i + 1 + q.length = (i + q.length) + 1 by omega, ← List.drop_drop, hwd, List.drop_drop]
        have := nv_drop (l := z) (k := i + q.length) (v := z[i + q.length]'(by omega)) (List.getElem?_eq_getElem (by omega))
        omega
      · simp only
        have ho' : (w.set (i + q.length) c)[i + q.length]? = some c := by
          have := (List.getElem?_eq_some_iff.1 ho).1
          simp [this]
        rw [show i + 1 + q.length = (i + q.length) + 1 by omega, nv_take_succ ho', List.take_set_of_le (Nat.le_refl _), hw, he, nv_take_succ hu, Nat.add_mul]
      · refine Eq.trans (b := [.d (dN Ψ p), .d (dN Ψ q), .own 1050 1, .d (.i .i64 _)]) rfl ?_
        rw [wrap_succ (by omega)]
      · refine Eq.trans (b := [.row true T.uint32 1 _]) rfl ?_
        rw [tn_ci, wrapu32_ci, Nat.mod_eq_of_lt hc, sset_lims]
  · have hi2 : i = p.length := by have := h; simp only [wz] at this; omega
    subst hi2
    have hall : nv z = nv p * nv q := by
      have := nv_split z (p.length + q.length) (by omega)
      rw [hz0, he, List.take_length, Nat.mul_zero, Nat.add_zero] at this
      exact this
    have hg := norm1_good z ⟨hzn, by omega⟩
    rw [hall] at hg
    refine nx ?_
    refine ⟨_, hC _ _ _ hg, ?_⟩
    exact nx trivial
end Go.K.S
end
section
namespace Go.K
theorem double_step {M zv c X x : Nat} (h : zv + M * c = 2 * X) : zv + M * ((2 * x + c) % 4294967296) + M * 4294967296 * ((2 * x + c) / 4294967296) = 2 * (X + M * x) := by
  have h1 := Nat.mod_add_div (2 * x + c) 4294967296
  have h2 : M * ((2 * x + c) % 4294967296) + M * 4294967296 * ((2 * x + c) / 4294967296) = M * (2 * x + c) := by
    rw [Nat.mul_assoc, ← Nat.mul_add, h1]
  rw [Nat.add_assoc, h2, Nat.mul_add, Nat.mul_left_comm]
  omega
theorem half_drop (l : List Nat) (k : Nat) : nv (l.drop k) / 2 = (nv (l.drop (k + 1)) % 2 * 4294967296 + l.getD k 0) / 2 + 4294967296 * (nv (l.drop (k + 1)) / 2) := by
  rw [getD_take_drop k]
  omega
theorem mod2_drop (l : List Nat) (k : Nat) : nv (l.drop k) % 2 = l.getD k 0 % 2 := by
  rw [getD_take_drop k]
  omega
end Go.K
namespace Go.K.S
open Go Go.K
set_option maxHeartbeats 2000000
theorem double1_good (a : List Nat) (ha : N a) (hal : a.length < 549755813888) : Good P F.penumbraref01_Double [.d (dN Ψ a), .d (.b false)] [] (.d (dN Ψ (Ψ .cn (2 * nv a)))) [] := by
  refine G.penumbraref01_Double fun C C2 hC hC2 => ?_
  have han := ha.lim
  refine nx ?_
  refine LoopG.intro (σ := Nat × List Nat × Nat) [0, 5, 6, 7] [1050]
      (fun s => [.d (dN Ψ a), .own 1050 1, .d (.i .u64 (Ω .ci s.2.2)), .d (.i .i64 (Ω .ci s.1))])
      (fun s => [.row true T.uint32 1 (Ψ .lims s.2.1)])
      (fun s => s.1 ≤ a.length ∧ s.2.1.length = s.1 ∧ lim s.2.1 ∧ s.2.2 ≤ 1 ∧ nv s.2.1 + 4294967296 ^ s.1 * s.2.2 = 2 * nv (a.take s.1))
      (fun s => a.length - s.1) (0, [], 0) [1100] ⟨Nat.zero_le _, rfl, lim_nil, Nat.zero_le _, by simp⟩ ⟨rfl, rfl, rfl⟩ ?_
  rintro ⟨i, z, c⟩ ⟨hi, hzl, hzn, hc, he⟩
  simp only at hi hzl hzn hc he
  refine nx ?_
  refine BrG.split (fun h => ?_) (fun h => ?_)
  · have hi2 : i < a.length := by have := h; simp only [wz] at this; omega
    obtain ⟨u, hu⟩ : ∃ u, a[i]? = some u := ⟨_, List.getElem?_eq_getElem hi2⟩
    have hul := lim_get han hu
    refine nx ?_
    refine idx_lims i u rfl hu rfl ?_
    refine nx ?_
    have hw : Ω .wrap .u64 (Ω .wrap .u64 (2 * Ω .wrap .u64 (Ω .ci u)) + Ω .ci c) = Ω .ci (2 * u + c) := by
      rw [wrapu64_ci, wrapu64, wrapu64]; simp only [wz]; omega
    rw [hw, tmodB, tdivB, wrapu32_ci, Nat.mod_mod]
    refine ⟨cells_one _ _, (by simp only [wz]; omega), (i + 1, z ++ [(2 * u + c) % 4294967296], (2 * u + c) / 4294967296), [1905], ⟨hi2, by simp [hzl], lim_append.2 ⟨hzn, by simp [lim_cons, lim_nil]; omega⟩, by simp only; omega, ?_⟩, by simp only; omega, rfl, ?_, ?_⟩
    · simp only
      rw [nv_snoc, hzl, nv_take_succ hu, Nat.pow_succ]
      exact double_step he
    · refine Eq.trans (b := [.d (dN Ψ a), .own 1050 1, .d (.i .u64 _), .d (.i .i64 _)]) rfl ?_
      rw [wrap_succ (by omega), wrapu64_ci, Nat.mod_eq_of_lt (show (2 * u + c) / 4294967296 < 18446744073709551616 by omega)]
    · refine Eq.trans (b := [.row true T.uint32 1 _]) rfl ?_
      rw [scat_snoc]
  · have hi2 : i = a.length := by have := h; simp only [wz] at this; omega
    subst hi2
    rw [List.take_length, ← hzl, ← nv_snoc] at he
    have hg := norm1_good (z ++ [c]) ⟨lim_append.2 ⟨hzn, by simp [lim_cons, lim_nil]; omega⟩, by simp; omega⟩
    rw [he] at hg
    refine nx ?_
    rw [wrapu32_ci, Nat.mod_eq_of_lt (show c < 4294967296 by omega)]
    refine ⟨cells_one _ _, (by simp only [wz]; omega), ?_⟩
    rw [scat_snoc]
    refine ⟨_, hC _ _ _ hg, ?_⟩
    exact nx trivial
theorem half1_good (a : List Nat) (ha : N a) : Good P F.penumbraref01_Half [.d (dN Ψ a)] [] (.d (dN Ψ (Ψ .cn (nv a / 2)))) [] := by
  refine G.penumbraref01_Half fun C C2 hC hC2 => ?_
  have han := ha.lim
  have hal := ha.len
  refine nx ?_
  refine LoopG.intro (σ := Nat × List Nat) [0, 3, 4] [1050]
      (fun s => [.d (dN Ψ a), .own 1050 1, .d (.i .i64 (Ω .ci s.1))])
      (fun s => [.row true T.uint32 1 (Ψ .lims s.2)])
      (fun s => s.1 ≤ a.length ∧ s.2.length = s.1 ∧ lim s.2 ∧ nv s.2 + 4294967296 ^ s.1 * (nv (a.drop s.1) / 2) = nv a / 2)
      (fun s => a.length - s.1) (0, []) [1100] ⟨Nat.zero_le _, rfl, lim_nil, by simp⟩ ⟨rfl, rfl, rfl⟩ ?_
  rintro ⟨i, z⟩ ⟨hi, hzl, hzn, he⟩
  simp only at hi hzl hzn he
  refine nx ?_
  refine BrG.split (fun h => ?_) (fun h => ?_)
  · have hi2 : i < a.length := by have := h; simp only [wz] at this; omega
    obtain ⟨u, hu⟩ : ∃ u, a[i]? = some u := ⟨_, List.getElem?_eq_getElem hi2⟩
    have hul := lim_get han hu
    have hud : a.getD i 0 = u := by simp [List.getD, hu]
    have g1 := limb1_good a (i + 1) ha
    have hhd := half_drop a i
    rw [mod2_drop, hud] at hhd
    have l1 := getD_lt han (i + 1)
    generalize a.getD (i + 1) 0 = v at *
    obtain ⟨x, hx⟩ : ∃ x, x = (v % 2 * 4294967296 + u) / 2 := ⟨_, rfl⟩
    rw [← hx] at hhd
    refine nx ?_
    rw [wrap_succ (by omega)]
    refine ⟨_, hC _ _ _ g1, ?_⟩
    refine nx ?_
    refine idx_lims i u rfl hu rfl ?_
    refine nx ?_
    have hw : Ω .wrap .u64 (Ω .wrap .u64 (Ω .tmod (Ω .ci v) 2 * 4294967296) + Ω .wrap .u64 (Ω .ci u)) = Ω .ci (v % 2 * 4294967296 + u) := by
      rw [tmod2, wrapu64_ci, wrapu64, wrapu64]; simp only [wz]; omega
    rw [hw, tdiv2, ← hx, wrapu64_ci, wrapu32_ci, Nat.mod_eq_of_lt (show x < 18446744073709551616 by omega), Nat.mod_eq_of_lt (show x < 4294967296 by omega)]
    refine ⟨cells_one _ _, (by simp only [wz]; omega), (i + 1, z ++ [x]), [1516], ⟨hi2, by simp [hzl], lim_append.2 ⟨hzn, by simp [lim_cons, lim_nil]; omega⟩, ?_⟩, by simp only; omega, rfl, ?_, ?_⟩
    · simp only
      rw [nv_snoc, hzl, Nat.pow_succ, Nat.mul_assoc, Nat.add_assoc, ← Nat.mul_add, ← hhd]
      exact he
    · refine Eq.trans (b := [.d (dN Ψ a), .own 1050 1, .d (.i .i64 _)]) rfl ?_
      rw [wrap_succ (by omega)]
    · refine Eq.trans (b := [.row true T.uint32 1 _]) rfl ?_
      rw [scat_snoc]
  · have hi2 : i = a.length := by have := h; simp only [wz] at this; omega
    subst hi2
    rw [List.drop_length] at he
    have hg := norm1_good z ⟨hzn, by omega⟩
    rw [show nv z = nv a / 2 by simpa using he] at hg
    refine nx ?_
    refine ⟨_, hC _ _ _ hg, ?_⟩
    exact nx trivial
theorem at1_good (x k : Nat) (hx : x < 18446744073709551616) (hk : k < 549755813888) : Good P F.penumbraref01_at [.d (.i .u64 (Ω .ci x)), .d (.i .i64 (Ω .ci k))] []
    (.d (dN Ψ (List.replicate k 0 ++ [x % 4294967296, x / 4294967296]))) [] := by
  refine G.penumbraref01_at fun C C2 hC hC2 => ?_
  obtain ⟨R, hR⟩ : ∃ R, R = List.replicate k 0 ++ [x % 4294967296, x / 4294967296] := ⟨_, rfl⟩
  rw [← hR]
  refine nx ?_
  rw [tmodB, tdivB, wrapu64_ci, wrapu32_ci, wrapu32_ci, Nat.mod_mod, Nat.mod_eq_of_lt (show x / 4294967296 < 18446744073709551616 by omega), Nat.mod_eq_of_lt (show x / 4294967296 < 4294967296 by omega)]
  refine ⟨ci_nonneg _, Int.le_refl _, by simp only [wz]; omega, by simp only [wz]; omega, ?_⟩
  rw [srep_lims, slen_lims, List.length_replicate]
  refine ⟨fun u hu => by simp only [List.mem_cons, List.not_mem_nil, or_false] at hu; rcases hu with rfl | rfl <;> rfl, (by simp only [wz]; omega), ?_⟩
  rw [lims_nil, lims_cons, lims_cons, scat_lims, hR]
end Go.K.S
end
section
namespace Go.K
theorem nv_at (k x : Nat) : nv (List.replicate k 0 ++ [x % 4294967296, x / 4294967296]) = 4294967296 ^ k * x := by
  rw [nv_append, nv_rep, List.length_replicate, Nat.zero_add]
  congr 1
  simp only [nv_cons, nv_nil]
  omega
theorem times_ok {L D t top M x M' K : Nat} (hL : M * x ≤ L) (hD : D < M' * top) (hK : M' * K = M) (ht : t * top ≤ x) : K * t * D ≤ L := by
  have h1 : K * t * D ≤ K * t * (M' * top) := Nat.mul_le_mul_left _ (Nat.le_of_lt hD)
  have h2 : K * t * (M' * top) = M * (t * top) := by rw [← hK]; ac_rfl
  have h3 := Nat.mul_le_mul_left M ht
  omega
theorem div_inv {q D k t L A : Nat} (h : q * D + L = A) (hle : k * t * D ≤ L) : (q + k * t) * D + (L - k * t * D) = A := by
  rw [Nat.add_mul]; omega
theorem halves (L n : Nat) : L / 2 ^ n / 2 = L / 2 ^ (n + 1) := by rw [Nat.div_div_eq_div_mul, Nat.pow_succ]
end Go.K
namespace Go.K.S
open Go Go.K
set_option maxHeartbeats 8000000
set_option maxRecDepth 20000
theorem divmod1_good (a b : List Nat) (ha : N a) (hb : N b) (hal : a.length < 137438953472) (hbl : b.length < 137438953472) (hb0 : nv b ≠ 0) :
    Good P F.penumbraref01_DivMod [.d (dN Ψ a), .d (dN Ψ b)] [] (.tup [.d (dN Ψ (Ψ .cn (nv a / nv b))), .d (dN Ψ (Ψ .cn (nv a % nv b))), .d (.b true)]) [] := by
  refine G.penumbraref01_DivMod fun C C2 hC hC2 => ?_
  have g1 := zero1_good b hb
  rw [decide_eq_false hb0] at g1
  have g2 := norm1_good b hb
  have g3 := norm1_good a ha
  obtain ⟨m0, hm0⟩ : ∃ m, m = 137438953473 := ⟨_, rfl⟩
  have hB0 : nv b < 4294967296 ^ b.length := nv_lt hb.lim
  have hA0 : nv a < 4294967296 ^ a.length := nv_lt ha.lim
  generalize nv a = X at *
  obtain ⟨Y, hY⟩ : ∃ Y, Y = nv b := ⟨_, rfl⟩
  rw [← hY] at g2 hB0 hb0 ⊢
  refine nx ?_
  refine ⟨_, hC _ _ _ g1, ?_⟩
  refine nx ?_
  refine ⟨_, hC _ _ _ g2, ?_⟩
  refine nx ?_
  refine ⟨_, hC _ _ _ g3, ?_⟩
  refine nx ?_
  refine LoopG.intro (σ := Nat × Nat) [7, 8, 9] []
      (fun s => [.d (dN Ψ (Ψ .cn (Y * 2 ^ s.1))), .d (dN Ψ (Ψ .cn (X * 2 ^ s.1))), .d (.i .i64 (Ω .ci s.1))])
      (fun _ => [])
      (fun s => s.2 = s.1 ∧ (Ψ .cn (Y * 2 ^ s.1)).length = (Ψ .cn Y).length ∧ s.1 ≤ 32)
      (fun s => 32 - s.1) (0, 0) [] ⟨rfl, by simp, by simp⟩ ⟨rfl, ?_, rfl⟩ ?_
  · simp only [Nat.pow_zero, Nat.mul_one]
    rfl
  rintro ⟨s, s'⟩ ⟨hs', hYl, hs⟩
  simp only at hs' hYl hs
  have hD0 : Y * 2 ^ s ≠ 0 := Nat.mul_ne_zero hb0 (Nat.ne_of_gt (Nat.pow_pos (by omega)))
  have hdiv : ∀ q L, q * (Y * 2 ^ s) + L = X * 2 ^ s → L < Y * 2 ^ s → X / Y = q ∧ L / 2 ^ s = X % Y := fun q L h1 h2 => by
    obtain ⟨e1, e2⟩ := divmod_unique h1 h2
    have hp2 : 0 < 2 ^ s := Nat.pow_pos (by omega)
    rw [Nat.mul_div_mul_right _ _ hp2] at e1
    rw [Nat.mul_mod_mul_right] at e2
    exact ⟨e1, by rw [← e2, Nat.mul_div_cancel _ hp2]⟩
  have hdY : ∀ s, Y * 2 ^ (s + 1) = 2 * (Y * 2 ^ s) := fun s => by rw [Nat.pow_succ]; ac_rfl
  have hdX : X * 2 ^ (s + 1) = 2 * (X * 2 ^ s) := by rw [Nat.pow_succ]; ac_rfl
  have hYl0 : (Ψ .cn Y).length ≤ b.length := len_cn.2 hB0
  have hLl : (Ψ .cn (X * 2 ^ s)).length ≤ a.length + 1 := by
    refine len_cn.2 ?_
    have h2 : 2 ^ s ≤ 4294967296 := Nat.pow_le_pow_right (n := 2) (by omega) hs
    rw [Nat.pow_succ]
    exact Nat.lt_of_lt_of_le (Nat.mul_lt_mul_of_pos_right hA0 (Nat.pow_pos (by omega))) (Nat.mul_le_mul_left _ h2)
  obtain ⟨D, hD⟩ : ∃ D, D = Y * 2 ^ s := ⟨_, rfl⟩
  obtain ⟨L0, hL0⟩ : ∃ L, L = X * 2 ^ s := ⟨_, rfl⟩
  rw [← hD] at hD0 hYl hdiv ⊢
  rw [← hL0] at hdiv hdX hLl ⊢
  have hdYs := hdY s
  rw [← hD] at hdYs
  obtain ⟨x, m, hlen, hx, hx0, hxl, hup, hlo, hsp⟩ := cn_top hD0
  have gD := double1_good (Ψ .cn D) ⟨lim_cn _, by omega⟩ (by omega)
  have gL := double1_good (Ψ .cn L0) ⟨lim_cn _, by omega⟩ (by omega)
  rw [nv_cn, ← hdYs] at gD
  rw [nv_cn, ← hdX] at gL
  have hDlen : (Ψ .cn D).length = m + 1 := hlen
  have hw1 : Ω .wrap .i64 (Ω .ci (Ψ .cn D).length - 1) = Ω .ci m := by rw [hlen, wrap_pred (by omega) (by omega)]; rfl
  refine nx ?_
  refine idx_lims m x hw1 hx rfl ?_
  refine nx ?_
  (generalize hq : Ω .lt (Ω .ci x) 2147483648 = q; refine BrG.split (fun h => ?_) (fun h => ?_) <;> subst hq)
  · have hsm : x < 2147483648 := by have := h; simp only [wz] at this; omega
    refine nx ?_
    refine ⟨_, hC _ _ _ gD, ?_⟩
    refine nx ?_
    refine ⟨_, hC _ _ _ gL, ?_⟩
    refine nx ?_
    have hs31 : s < 32 := by
      rcases Nat.lt_or_ge s 32 with c | c
      · exact c
      · exfalso
        have hs32 : s = 32 := by omega
        subst hs32
        have hge := cn_ge (n := Y) (k := m) (by omega)
        have h1 := Nat.mul_le_mul_right (2 ^ 32) hge
        have h2 := Nat.mul_le_mul_left (4294967296 ^ m) (show x + 1 ≤ 2 ^ 32 by omega)
        omega
    refine ⟨(s + 1, s + 1), [], ⟨rfl, ?_, hs31⟩, by simp only; omega, rfl, ?_, rfl⟩
    · simp only
      rw [hdYs, ← hYl]
      refine Nat.le_antisymm ?_ (len_cn_eq (by omega))
      rw [hlen]
      refine len_cn.2 ?_
      have h2 := Nat.mul_le_mul_left (4294967296 ^ m) (show 2 * (x + 1) ≤ 4294967296 by omega)
      rw [Nat.pow_succ]
      rw [Nat.mul_left_comm] at h2
      omega
    · refine Eq.trans (b := [V.d (dN Ψ (Ψ .cn (Y * 2 ^ (s + 1)))), V.d (dN Ψ (Ψ .cn (X * 2 ^ (s + 1)))), V.d (.i .i64 _)]) rfl ?_
      rw [wrap_succ (by omega)]
  · have hbig : 2147483648 ≤ x := by have := h; simp only [wz] at this; omega
    clear gD gL hdYs hdX hdY
    refine nx ?_
    refine idx_lims m x hw1 hx rfl ?_
    refine nx ?_
    have htop : Ω .wrap .u64 (Ω .wrap .u64 (Ω .ci x) + 1) = Ω .ci (x + 1) := by
      rw [wrapu64_ci, wrapu64]; simp only [wz]; omega
    rw [htop]
    have hDl2 : D < 4294967296 ^ m * (x + 1) := hup
    refine LoopG.intro (σ := Bool × Nat × Nat) [7, 8, 9, 10, 11, 12] [1050]
      (fun u => [.d (dN Ψ (Ψ .cn D)), .d (dN Ψ (Ψ .cn u.2.2)), .d (.i .i64 (Ω .ci s)), if u.1 then .own 1050 1 else .d (dN Ψ (Ψ .cn u.2.1)), .d (.i .i64 (Ω .ci (m + 1))), .d (.i .u64 (Ω .ci (x + 1)))])
      (fun u => [.row u.1 T.uint32 1 (Ψ .lims (Ψ .cn 0))])
      (fun u => (u.1 = true → u.2.1 = 0) ∧ u.2.1 * D + u.2.2 = L0)
      (fun u => u.2.2) (true, 0, L0) [2000] ⟨(by first | exact rfl | exact fun _ => rfl), by simp⟩ ⟨rfl, ?_, ?_⟩ ?_
    · refine Eq.trans (b := [V.d (dN Ψ (Ψ .cn D)), V.d (dN Ψ (Ψ .cn L0)), V.d (.i .i64 (Ω .ci s)), .own 1050 1, V.d (.i .i64 _), V.d (.i .u64 _)]) rfl ?_
      rw [hlen]; rfl
    · refine Eq.trans (b := [.row true T.uint32 1 (Ψ .lims [])]) rfl ?_
      rw [← cn_zero]
    rintro ⟨fr, q, L⟩ ⟨hfr, hinv⟩
    simp only at hfr hinv
    have hLL : L ≤ L0 := by omega
    have hqL : q ≤ L0 := by
      have := Nat.le_mul_of_pos_right q (Nat.pos_of_ne_zero hD0)
      omega
    have hLlen := len_cn_eq hLL
    have hqlen := len_cn_eq hqL
    have gc := cmp1_good (Ψ .cn L) (Ψ .cn D) ⟨lim_cn _, by omega⟩ ⟨lim_cn _, by omega⟩
    rw [nv_cn, nv_cn] at gc
    refine nx ?_
    refine ⟨_, hC _ _ _ gc, ?_⟩
    refine nx ?_
    refine BrG.split (fun h => ?_) (fun h => ?_)
    · have hge : D ≤ L := by have := of_decide_eq_true h; exact cmpI_nonneg.1 this
      obtain ⟨y, p, hplen, hy, hy0, hyl, hyup, hylo, hysp⟩ := cn_top (show L ≠ 0 by omega)
      have hpm : m ≤ p := by have := len_cn_eq hge; omega
      have hv1 : Ω .wrap .i64 (Ω .ci (Ψ .cn L).length - Ω .ci (m + 1)) = Ω .ci (p - m) := by
        rw [hplen, wrap_sub (by omega) (by omega), show p + 1 - (m + 1) = p - m by omega]
      have hv2 : Ω .wrap .i64 (Ω .ci (Ψ .cn L).length - 1) = Ω .ci p := by rw [hplen, wrap_pred (by omega) (by omega)]; rfl
      have hxne : Ω .ci (x + 1) ≠ 0 := by simp only [wz]; omega
      refine nx ?_
      rw [hv1]
      refine idx_lims p y hv2 hy rfl ?_
      refine nx ?_
      refine ⟨hxne, ?_⟩
      have hw3 : Ω .wrap .u64 ((Ω .wrap .u64 (Ω .ci y)).tdiv (Ω .ci (x + 1))) = Ω .ci (y / (x + 1)) := by
        rw [wrapu64_ci, tdiv_ci, wrapu64_ci, Nat.mod_eq_of_lt (show y < 18446744073709551616 by omega), Nat.mod_eq_of_lt]
        exact Nat.lt_of_le_of_lt (Nat.div_le_self _ _) (by omega)
      rw [hw3]
      obtain ⟨t0, ht0d⟩ : ∃ t, t = y / (x + 1) := ⟨_, rfl⟩
      rw [← ht0d]
      have hpow : 4294967296 ^ m * 4294967296 ^ (p - m) = 4294967296 ^ p := by rw [← Nat.pow_add, show m + (p - m) = p by omega]
      refine BrG.split (fun h => ?_) (fun h => ?_)
      focus
        have ht0 : t0 = 0 := by simp [wz] at h; first | omega | (have := of_decide_eq_true h; omega)
        rw [ht0]
        refine nx ?_
        refine BrG.split (fun h => ?_) (fun h => ?_)
        focus
          have hgt : m < p := by have := of_decide_eq_true h; rw [hplen] at this; simp only [wz] at this; omega
          obtain ⟨z, hz⟩ : ∃ z, (Ψ .cn L)[p - 1]? = some z := ⟨_, List.getElem?_eq_getElem (by omega)⟩
          have hzl := lim_get (lim_cn _) hz
          have hv4 : Ω .wrap .i64 (Ω .ci (Ψ .cn L).length - 2) = Ω .ci (p - 1) := by
            rw [hplen, wrap64 (by simp only [wz]; omega) (by simp only [wz]; omega)]; simp only [wz]; omega
          refine nx ?_
          refine idx_lims p y hv2 hy rfl ?_
          refine nx ?_
          refine idx_lims (p - 1) z hv4 hz rfl ?_
          refine nx ?_
          refine ⟨hxne, ?_⟩
          obtain ⟨k, hk⟩ : ∃ k, k = p - m - 1 := ⟨_, rfl⟩
          obtain ⟨t, ht⟩ : ∃ t, t = (y * 4294967296 + z) / (x + 1) := ⟨_, rfl⟩
          have hw4 : Ω .wrap .u64 ((Ω .wrap .u64 (Ω .wrap .u64 (Ω .wrap .u64 (Ω .ci y) * 4294967296) + Ω .wrap .u64 (Ω .ci z))).tdiv (Ω .ci (x + 1))) = Ω .ci t := by
            have e1 : Ω .wrap .u64 (Ω .wrap .u64 (Ω .wrap .u64 (Ω .ci y) * 4294967296) + Ω .wrap .u64 (Ω .ci z)) = Ω .ci (y * 4294967296 + z) := by
              rw [wrapu64_ci, wrapu64_ci, wrapu64, wrapu64]; simp only [wz]; omega
            rw [e1, tdiv_ci, ← ht, wrapu64_ci, Nat.mod_eq_of_lt]
            rw [ht]
            exact Nat.lt_of_le_of_lt (Nat.div_le_self _ _) (by omega)
          have hw5 : Ω .wrap .i64 (Ω .ci (p - m) - 1) = Ω .ci k := by rw [wrap_pred (by omega) (by omega), hk]
          rw [hw4, hw5]
          have htpos : t ≠ 0 := by
            rw [ht]
            have : 1 ≤ (y * 4294967296 + z) / (x + 1) := (Nat.le_div_iff_mul_le (by omega)).2 (by omega)
            omega
          have htl : t < 18446744073709551616 := by
            rw [ht]
            exact Nat.lt_of_le_of_lt (Nat.div_le_self _ _) (by omega)
          have hok : 4294967296 ^ k * t * D ≤ L := by
            have hz2 := nv_take_succ hz
            rw [show p - 1 + 1 = p by omega] at hz2
            refine times_ok (M := 4294967296 ^ (p - 1)) (x := y * 4294967296 + z) ?_ hDl2 ?_ (by rw [ht]; exact Nat.div_mul_le_self _ _)
            · rw [hysp, hz2, Nat.mul_add, show 4294967296 ^ (p - 1) * (y * 4294967296) = 4294967296 ^ p * y by
                rw [show 4294967296 ^ p = 4294967296 ^ (p - 1) * 4294967296 by rw [← Nat.pow_succ, show (p - 1).succ = p by omega]]; ac_rfl]
              omega
            · rw [← Nat.pow_add, show m + k = p - 1 by omega]
          have hkl : k ≤ a.length := by omega
          refine BrG.split (fun h => ?_) (fun h => ?_)
          · exfalso; simp [wz] at h; first | omega | (have := of_decide_eq_true h; omega)
          refine nx ?_
        rotate_left
        focus
          have hgt : p = m := by have := of_decide_eq_false h; rw [hplen] at this; simp only [wz] at this; omega
          obtain ⟨k, hk⟩ : ∃ k, k = p - m := ⟨_, rfl⟩
          obtain ⟨t, ht⟩ : ∃ t, t = 1 := ⟨_, rfl⟩
          have htpos : t ≠ 0 := by omega
          have htl : t < 18446744073709551616 := by omega
          have hok : 4294967296 ^ k * t * D ≤ L := by
            rw [hk, ht, hgt, Nat.sub_self]; omega
          have hkl : k ≤ a.length := by omega
          rw [← hk]
          refine nx ?_
          refine BrG.split (fun h => ?_) (fun h => ?_)
          rotate_left
          · exfalso; have := h; simp only [wz] at this; omega
          refine nx ?_
          rw [show (1 : Int) = Ω .ci t by rw [ht]; rfl]
      rotate_left 2
      focus
        have ht0 : t0 ≠ 0 := by simp [wz] at h; first | omega | (have := of_decide_eq_false h; omega)
        obtain ⟨k, hk⟩ : ∃ k, k = p - m := ⟨_, rfl⟩
        obtain ⟨t, ht'⟩ : ∃ t, t = t0 := ⟨_, rfl⟩
        have ht : t = y / (x + 1) := by rw [ht', ht0d]
        have htpos : t ≠ 0 := by omega
        have htl : t < 18446744073709551616 := by
          rw [ht]
          exact Nat.lt_of_le_of_lt (Nat.div_le_self _ _) (by omega)
        have hok : 4294967296 ^ k * t * D ≤ L := times_ok hylo hDl2 (by rw [hk]; exact hpow) (by rw [ht]; exact Nat.div_mul_le_self _ _)
        have hkl : k ≤ a.length := by omega
        rw [← hk, ← ht']
        refine nx ?_
        refine BrG.split (fun h => ?_) (fun h => ?_)
        · exfalso; simp [wz] at h; first | omega | (have := of_decide_eq_true h; omega)
        refine nx ?_
      all_goals
        obtain ⟨S, hS⟩ : ∃ S, S = List.replicate k 0 ++ [t % 4294967296, t / 4294967296] := ⟨_, rfl⟩
        have hSv : nv S = 4294967296 ^ k * t := by rw [hS, nv_at]
        have hSl : S.length = k + 2 := by rw [hS]; simp
        have hSn : lim S := by rw [hS]; exact lim_append.2 ⟨lim_rep _, by simp [lim_cons, lim_nil]; omega⟩
        have ga := at1_good t k htl (by omega)
        rw [← hS] at ga
        have gm := mul1_good S (Ψ .cn D) ⟨hSn, by omega⟩ ⟨lim_cn _, by omega⟩ (by omega) (by omega)
        rw [hSv, nv_cn] at gm
        have hPle := len_cn_eq hok
        have gs := sub1_good (Ψ .cn L) (Ψ .cn (4294967296 ^ k * t * D)) ⟨lim_cn _, by omega⟩ ⟨lim_cn _, by omega⟩ (by omega) (by rw [nv_cn, nv_cn]; exact hok)
        rw [nv_cn, nv_cn] at gs
        have hinv2 := div_inv hinv hok
        have gad := add1_good (Ψ .cn q) S ⟨lim_cn _, by omega⟩ ⟨hSn, by omega⟩ (by omega) (by omega)
        rw [nv_cn, hSv] at gad
        have hPpos : 0 < 4294967296 ^ k * t * D := Nat.mul_pos (Nat.mul_pos (pow_pos_B k) (Nat.pos_of_ne_zero htpos)) (Nat.pos_of_ne_zero hD0)
        have hlt : L - 4294967296 ^ k * t * D < L := by omega
        obtain ⟨q', hq'⟩ : ∃ q', q' = q + 4294967296 ^ k * t := ⟨_, rfl⟩
        obtain ⟨L', hL'⟩ : ∃ L', L' = L - 4294967296 ^ k * t * D := ⟨_, rfl⟩
        rw [← hq'] at gad hinv2
        rw [← hL'] at gs hinv2 hlt
        obtain ⟨P', hP'⟩ : ∃ P', P' = 4294967296 ^ k * t * D := ⟨_, rfl⟩
        rw [← hP'] at gm gs
        refine ⟨_, hC _ _ _ ga, ?_⟩
        cases fr
        · refine nx ?_
          refine ⟨_, hC _ _ _ gad, ?_⟩
          refine nx ?_
          refine ⟨_, hC _ _ _ gm, ?_⟩
          refine nx ?_
          refine ⟨_, hC _ _ _ gs, ?_⟩
          refine nx ?_
          refine ⟨(false, q', L'), [1050], ⟨fun h => Bool.noConfusion h, hinv2⟩, hlt, rfl, rfl, rfl⟩
        · have hq0 := hfr rfl
          subst hq0
          refine nx ?_
          refine ⟨_, hC _ _ _ gad, ?_⟩
          refine nx ?_
          refine ⟨_, hC _ _ _ gm, ?_⟩
          refine nx ?_
          refine ⟨_, hC _ _ _ gs, ?_⟩
          refine nx ?_
          refine ⟨(false, q', L'), [1050], ⟨fun h => Bool.noConfusion h, hinv2⟩, hlt, rfl, rfl, rfl⟩
    · have hlt : L < D := by have := of_decide_eq_false h; have h2 := mt (@cmpI_nonneg L D).2 this; omega
      obtain ⟨e1, e2⟩ := hdiv q L hinv hlt
      rw [e1, ← e2]
      obtain ⟨Y2, hY2⟩ : ∃ n, n = L / 2 ^ s := ⟨_, rfl⟩
      refine nx ?_
      refine LoopG.intro (σ := Nat) [8, 9, 10, 17] [1050]
        (fun n => [.d (dN Ψ (Ψ .cn (L / 2 ^ n))), .d (.i .i64 (Ω .ci s)), if fr then .own 1050 1 else .d (dN Ψ (Ψ .cn q)), .d (.i .i64 (Ω .ci n))])
        (fun _ => [.row fr T.uint32 1 (Ψ .lims (Ψ .cn 0))])
        (fun n => n ≤ s)
        (fun n => s - n) 0 [1050] (Nat.zero_le _) ⟨rfl, ?_, rfl⟩ ?_
      · simp only [Nat.pow_zero, Nat.div_one]
        cases fr <;> rfl
      intro n hn
      have hln : (Ψ .cn (L / 2 ^ n)).length ≤ (Ψ .cn L).length := len_cn_eq (Nat.div_le_self _ _)
      have gh := half1_good (Ψ .cn (L / 2 ^ n)) ⟨lim_cn _, by omega⟩
      rw [nv_cn, halves] at gh
      obtain ⟨u1, hu1⟩ : ∃ u, u = L / 2 ^ n := ⟨_, rfl⟩
      obtain ⟨u2, hu2⟩ : ∃ u, u = L / 2 ^ (n + 1) := ⟨_, rfl⟩
      rw [← hu1, ← hu2] at gh
      rw [← hu1]
      refine nx ?_
      refine BrG.split (fun h => ?_) (fun h => ?_)
      · have hns : n < s := by have := h; simp only [wz] at this; omega
        refine nx ?_
        refine ⟨_, hC _ _ _ gh, ?_⟩
        refine nx ?_
        refine ⟨n + 1, [1050], hns, by omega, rfl, ?_, rfl⟩
        rw [← hu2]
        refine Eq.trans (b := [V.d (dN Ψ (Ψ .cn u2)), V.d (.i .i64 (Ω .ci s)), if fr then .own 1050 1 else .d (dN Ψ (Ψ .cn q)), V.d (.i .i64 (Ω .wrap .i64 (Ω .ci n + 1)))]) ?_ ?_
        · cases fr <;> rfl
        · rw [wrap_succ (by omega)]
      · have hns : n = s := by have := h; simp only [wz] at this; omega
        subst hns
        cases fr
        · refine nx ?_
          rw [hu1]
        · have hq0 := hfr rfl
          subst hq0
          refine nx ?_
          rw [hu1]
theorem gcd1_good (a b : List Nat) (ha : N a) (hb : N b) (hal : a.length < 137438953472) (hbl : b.length < 137438953472) :
    Good P F.penumbraref02_Gcd [.d (dN Ψ a), .d (dN Ψ b)] [] (.d (dN Ψ (Ψ .cn ((nv a).gcd (nv b))))) [] := by
  refine G.penumbraref02_Gcd fun C C2 hC hC2 => ?_
  refine nx ?_
  refine LoopG.intro (σ := List Nat × List Nat) [0, 1] [] (fun s => [.d (dN Ψ s.1), .d (dN Ψ s.2)]) (fun _ => [])
    (fun s => N s.1 ∧ N s.2 ∧ s.1.length < 137438953472 ∧ s.2.length < 137438953472 ∧ (nv s.1).gcd (nv s.2) = (nv a).gcd (nv b)) (fun s => nv s.2) (a, b) [] ⟨ha, hb, hal, hbl, rfl⟩ ⟨rfl, rfl, rfl⟩ ?_
  rintro ⟨x, y⟩ ⟨hx, hy, hxl, hyl, he⟩
  simp only at hx hy hxl hyl he
  have gz := zero1_good y hy
  by_cases hy0 : nv y = 0
  · rw [decide_eq_true hy0] at gz
    rw [hy0, Nat.gcd_zero_right] at he
    have gn := norm1_good x hx
    rw [he] at gn
    refine nx ?_
    refine ⟨_, hC _ _ _ gz, ?_⟩
    refine nx ?_
    refine ⟨_, hC _ _ _ gn, ?_⟩
    exact nx trivial
  · rw [decide_eq_false hy0] at gz
    have hg := divmod1_good x y hx hy hxl hyl hy0
    have hlt := Nat.mod_lt (nv x) (Nat.pos_of_ne_zero hy0)
    have hml : (Ψ .cn (nv x % nv y)).length ≤ y.length := len_cn.2 (Nat.lt_trans hlt (nv_lt hy.lim))
    refine nx ?_
    refine ⟨_, hC _ _ _ gz, ?_⟩
    refine nx ?_
    refine ⟨_, hC _ _ _ hg, ?_⟩
    refine nx ?_
    refine ⟨(y, Ψ .cn (nv x % nv y)), [], ⟨hy, ⟨lim_cn _, by simp only; omega⟩, hyl, by simp only; omega, ?_⟩, ?_, rfl, rfl, rfl⟩
    · simp only [nv_cn]
      rw [← he, Nat.gcd_comm (nv y), ← Nat.gcd_rec, Nat.gcd_comm]
    · simp only [nv_cn]
      exact hlt
end Go.K.S
end
section
namespace Go.K.S
open Go Go.K
set_option maxHeartbeats 4000000
set_option maxRecDepth 20000
theorem zero3_good : Good P F.penumbraref03_Zero [] [] (.d (.agg (dR Ψ (Ψ .cr 0)))) [] := by
  refine G.penumbraref03_Zero fun C C2 hC hC2 => ?_
  rw [cr_zero]
  refine nx ?_
  rfl
theorem one3_good : Good P F.penumbraref03_One [] [] (.d (.agg (dR Ψ (Ψ .cr 1)))) [] := by
  refine G.penumbraref03_One fun C C2 hC hC2 => ?_
  rw [cr_one]
  refine nx ?_
  rfl
theorem read3_good (r : RL) {k : Nat} (h : Rn k r) (hk : k < 137438953472) : Good P F.penumbraref03_Read [.d (.agg (dR Ψ r))] [] (.d (.agg (dR Ψ (Ψ .cr (rv r))))) [] := by
  refine G.penumbraref03_Read fun C C2 hC hC2 => ?_
  have n1 := h.N1 (by omega)
  have n2 := h.N2 (by omega)
  have k1 := h.kn
  have k2 := h.kd
  have g1 := zero1_good r.den n2
  have g2 := zero1_good r.num n1
  have hz := @rv_zero_iff r
  by_cases hd : nv r.den = 0
  · rw [hz.2 (.inr hd)]
    rw [decide_eq_true hd] at g1
    have g3 := zero3_good
    generalize Ψ .cr 0 = R at *
    obtain ⟨s, x, y⟩ := r
    simp only at *
    refine nx ?_
    refine ⟨_, hC _ _ _ g1, ?_⟩
    refine nx ?_
    refine ⟨_, hC _ _ _ g3, ?_⟩
    exact nx trivial
  rw [decide_eq_false hd] at g1
  by_cases hn : nv r.num = 0
  · rw [hz.2 (.inl hn)]
    rw [decide_eq_true hn] at g2
    have g3 := zero3_good
    generalize Ψ .cr 0 = R at *
    obtain ⟨s, x, y⟩ := r
    simp only at *
    refine nx ?_
    refine ⟨_, hC _ _ _ g1, ?_⟩
    refine nx ?_
    refine ⟨_, hC _ _ _ g2, ?_⟩
    refine nx ?_
    refine ⟨_, hC _ _ _ g3, ?_⟩
    exact nx trivial
  rw [decide_eq_false hn] at g2
  have g3 := gcd1_good r.num r.den n1 n2 (by omega) (by omega)
  have hcr := cr_mk (b := r.neg) hn hd
  have hrv : rv r = mkRat (sg r.neg (nv r.num)) (nv r.den) := rfl
  rw [← hrv] at hcr
  have hg0 : (nv r.num).gcd (nv r.den) ≠ 0 := Nat.gcd_ne_zero_left hn
  have hgl : (Ψ .cn ((nv r.num).gcd (nv r.den))).length ≤ r.num.length := len_cn.2 (Nat.lt_of_le_of_lt (Nat.gcd_le_left _ (Nat.pos_of_ne_zero hn)) (nv_lt n1.lim))
  have g4 := divmod1_good r.num (Ψ .cn ((nv r.num).gcd (nv r.den))) n1 ⟨lim_cn _, by omega⟩ (by omega) (by omega) (by rw [nv_cn]; exact hg0)
  have g5 := divmod1_good r.den (Ψ .cn ((nv r.num).gcd (nv r.den))) n2 ⟨lim_cn _, by omega⟩ (by omega) (by omega) (by rw [nv_cn]; exact hg0)
  rw [nv_cn] at g4 g5
  obtain ⟨R, hR⟩ : ∃ R, R = Ψ .cr (rv r) := ⟨_, rfl⟩
  rw [← hR] at hcr ⊢
  clear hR hrv hz
  generalize (nv r.num).gcd (nv r.den) = g at *
  generalize nv r.num / g = u1 at *
  generalize nv r.num % g = u2 at *
  generalize nv r.den / g = u3 at *
  generalize nv r.den % g = u4 at *
  obtain ⟨s, x, y⟩ := r
  simp only at *
  subst hcr
  refine nx ?_
  refine ⟨_, hC _ _ _ g1, ?_⟩
  refine nx ?_
  refine ⟨_, hC _ _ _ g2, ?_⟩
  refine nx ?_
  refine ⟨_, hC _ _ _ g3, ?_⟩
  refine nx ?_
  refine ⟨_, hC _ _ _ g4, ?_⟩
  refine nx ?_
  refine ⟨_, hC _ _ _ g5, ?_⟩
  exact nx trivial
theorem is3_good (a b : RL) {j k : Nat} (ha : Rn j a) (hb : Rn k b) (hj : j < 1099511627776) (hk : k < 1099511627776) :
    Good P F.penumbraref03_Is [.d (.agg (dR Ψ a)), .d (.agg (dR Ψ b))] [] (.d (.b (decide (a = b)))) [] := by
  refine G.penumbraref03_Is fun C C2 hC hC2 => ?_
  have k1 := ha.kn
  have k2 := ha.kd
  have k3 := hb.kn
  have k4 := hb.kd
  have g1 := same1_good a.num b.num (by omega) (by omega)
  have g2 := same1_good a.den b.den (by omega) (by omega)
  obtain ⟨R, hR⟩ : ∃ R, R = decide (a = b) := ⟨_, rfl⟩
  rw [← hR]
  have hR2 : R = (decide (a.neg = b.neg) && (decide (a.num = b.num) && decide (a.den = b.den))) := by
    rw [hR, ← Bool.decide_and, ← Bool.decide_and]
    exact decide_eq_decide.2 RL.ext_iff''
  clear hR
  generalize decide (a.num = b.num) = t1 at *
  generalize decide (a.den = b.den) = t2 at *
  obtain ⟨s, x, y⟩ := a
  obtain ⟨s', x', y'⟩ := b
  simp only at *
  subst hR2
  cases s <;> cases s' <;> cases t1 <;> cases t2
  all_goals exact run trivial
theorem abs3_good (n : Int) (h1 : -9223372036854775808 ≤ n) (h2 : n ≤ 9223372036854775807) : Good P F.penumbraref03_abs [.d (.i .i64 n)] [] (.d (dN Ψ (Ψ .cn n.natAbs))) [] := by
  refine G.penumbraref03_abs fun C C2 hC hC2 => ?_
  have g := of1_good n.natAbs (by omega)
  obtain ⟨m, hm⟩ : ∃ m, m = n.natAbs := ⟨_, rfl⟩
  rw [← hm] at g ⊢
  refine nx ?_
  refine BrG.split (fun h => ?_) (fun h => ?_)
  · have h0 := of_decide_eq_true h
    have e : Ω .wrap .u64 (Ω .wrap .u64 (Ω .wrap .i64 (0 - Ω .wrap .i64 (n + 1))) + 1) = Ω .ci m := by
      rw [wrap64 (n := n + 1) (by omega) (by omega), wrap64 (by omega) (by omega), wrapu64, wrapu64]; simp only [wz]; omega
    refine nx ?_
    rw [e]
    refine ⟨_, hC _ _ _ g, ?_⟩
    exact nx trivial
  · have h0 := of_decide_eq_false h
    have e : Ω .wrap .u64 n = Ω .ci m := by
      rw [wrapu64]; simp only [wz]; omega
    refine nx ?_
    rw [e]
    refine ⟨_, hC _ _ _ g, ?_⟩
    exact nx trivial
theorem of3_good (n d : Int) (h1 : -9223372036854775808 ≤ n) (h2 : n ≤ 9223372036854775807) (h3 : -9223372036854775808 ≤ d) (h4 : d ≤ 9223372036854775807) :
    Good P F.penumbraref03_Of [.d (.i .i64 n), .d (.i .i64 d)] [] (.d (.agg (dR Ψ (Ψ .cr ((n : Rat) / (d : Rat)))))) [] := by
  refine G.penumbraref03_Of fun C C2 hC hC2 => ?_
  have g1 := abs3_good n h1 h2
  have g2 := abs3_good d h3 h4
  have b1 : n.natAbs < 4294967296 ^ 2 := by omega
  have b2 : d.natAbs < 4294967296 ^ 2 := by omega
  have g3 := fun s => read3_good ⟨s, Ψ .cn n.natAbs, Ψ .cn d.natAbs⟩ (k := 2) ⟨lim_cn _, lim_cn _, len_cn.2 b1, len_cn.2 b2⟩ (by omega)
  simp only [rv_mk, nv_cn] at g3
  have hv := of_mk n d
  obtain ⟨R, hR⟩ : ∃ R, R = Ψ .cr ((n : Rat) / (d : Rat)) := ⟨_, rfl⟩
  rw [← hR]
  rw [← hv] at hR
  clear hv
  generalize n.natAbs = u at *
  generalize d.natAbs = v at *
  have g3' : ∀ s, R = Ψ .cr (mkRat (sg s u) v) → Good P F.penumbraref03_Read [.d (.agg (dR Ψ ⟨s, Ψ .cn u, Ψ .cn v⟩))] [] (.d (.agg (dR Ψ R))) [] := fun s e => e ▸ g3 s
  refine nx ?_
  have hn : n < 0 ∨ 0 ≤ n := by omega
  have hd : d < 0 ∨ 0 ≤ d := by omega
  rcases hn with hn | hn <;> rcases hd with hd | hd
  all_goals
    first | rw [decide_eq_true (show n < 0 by omega)] at * | rw [decide_eq_false (show ¬ n < 0 by omega)] at *
    first | rw [decide_eq_true (show d < 0 by omega)] at hR | rw [decide_eq_false (show ¬ d < 0 by omega)] at hR
    refine nx ?_
    repeat (first
      | (rw [lt_true.2 (show n < 0 by omega)]; refine nx ?_)
      | (rw [lt_false.2 (show 0 ≤ n by omega)]; refine nx ?_)
      | (rw [lt_true.2 (show d < 0 by omega)]; refine nx ?_)
      | (rw [lt_false.2 (show 0 ≤ d by omega)]; refine nx ?_)
      | (rw [le_true.2 (show 0 ≤ n by omega)]; refine nx ?_)
      | (rw [le_false.2 (show n < 0 by omega)]; refine nx ?_)
      | (rw [le_true.2 (show 0 ≤ d by omega)]; refine nx ?_)
      | (rw [le_false.2 (show d < 0 by omega)]; refine nx ?_))
    have g := g3' _ hR
    refine ⟨_, hC _ _ _ g1, ?_⟩
    refine nx ?_
    refine ⟨_, hC _ _ _ g2, ?_⟩
    refine nx ?_
    refine ⟨_, hC _ _ _ g, ?_⟩
    exact nx trivial
theorem sign3_good (r : RL) {k : Nat} (h : Rn k r) (hk : k < 549755813888) : Good P F.penumbraref03_Sign [.d (.agg (dR Ψ r))] [] (.d (.i .i64 (Ψ .sI (rv r)))) [] := by
  refine G.penumbraref03_Sign fun C C2 hC hC2 => ?_
  have g1 := zero1_good r.num (h.N1 (by omega))
  have g2 := zero1_good r.den (h.N2 (by omega))
  have z := @rv_zero_iff r
  have hs := @sI_rv r
  have h0 := @sI_zero (rv r)
  rw [z] at h0
  obtain ⟨R, hR⟩ : ∃ R, R = Ψ .sI (rv r) := ⟨_, rfl⟩
  rw [← hR] at hs h0 ⊢
  by_cases hm : nv r.num = 0
  · rw [decide_eq_true hm] at g1
    have := h0.2 (.inl hm)
    subst this
    obtain ⟨s, x, y⟩ := r
    simp only at *
    refine nx ?_
    refine ⟨_, hC _ _ _ g1, ?_⟩
    exact nx trivial
  rw [decide_eq_false hm] at g1
  by_cases hn : nv r.den = 0
  · rw [decide_eq_true hn] at g2
    have := h0.2 (.inr hn)
    subst this
    obtain ⟨s, x, y⟩ := r
    simp only at *
    refine nx ?_
    refine ⟨_, hC _ _ _ g1, ?_⟩
    refine nx ?_
    refine ⟨_, hC _ _ _ g2, ?_⟩
    exact nx trivial
  rw [decide_eq_false hn] at g2
  have := hs hm hn
  subst this
  obtain ⟨s, x, y⟩ := r
  simp only at *
  cases s
  all_goals
    refine nx ?_
    refine ⟨_, hC _ _ _ g1, ?_⟩
    refine nx ?_
    refine ⟨_, hC _ _ _ g2, ?_⟩
    exact nx trivial
theorem mul3_good (a b : RL) {j k : Nat} (ha : Rn j a) (hb : Rn k b) (hj2 : j < 68719476736) (hk2 : k < 68719476736) :
    Good P F.penumbraref03_Mul [.d (.agg (dR Ψ a)), .d (.agg (dR Ψ b))] [] (.d (.agg (dR Ψ (Ψ .cr (rv a * rv b))))) [] := by
  refine G.penumbraref03_Mul fun C C2 hC hC2 => ?_
  have p1 := ha.N1 (by omega)
  have p2 := ha.N2 (by omega)
  have q1 := hb.N1 (by omega)
  have q2 := hb.N2 (by omega)
  have lp1 := ha.kn
  have lp2 := ha.kd
  have lq1 := hb.kn
  have lq2 := hb.kd
  have m1 := mul1_good a.num b.num p1 q1 (by omega) (by omega)
  have m2 := mul1_good a.den b.den p2 q2 (by omega) (by omega)
  have b1 : nv a.num * nv b.num < 4294967296 ^ (j + k) := lt_mul_pow (nv_lt_pow p1.lim lp1) (nv_lt_pow q1.lim lq1)
  have b2 : nv a.den * nv b.den < 4294967296 ^ (j + k) := lt_mul_pow (nv_lt_pow p2.lim lp2) (nv_lt_pow q2.lim lq2)
  have g := read3_good ⟨a.neg != b.neg, Ψ .cn (nv a.num * nv b.num), Ψ .cn (nv a.den * nv b.den)⟩ (k := j + k) ⟨lim_cn _, lim_cn _, len_cn.2 b1, len_cn.2 b2⟩ (by omega)
  rw [rv_mk, nv_cn, nv_cn, ← rv_mul] at g
  generalize nv a.num * nv b.num = u at *
  generalize nv a.den * nv b.den = v at *
  generalize Ψ .cr (rv a * rv b) = R at *
  obtain ⟨s, x, y⟩ := a
  obtain ⟨s', x', y'⟩ := b
  simp only at *
  cases s <;> cases s'
  all_goals
    refine nx ?_
    refine ⟨_, hC _ _ _ m1, ?_⟩
    refine nx ?_
    refine ⟨_, hC _ _ _ m2, ?_⟩
    refine nx ?_
    refine ⟨_, hC _ _ _ g, ?_⟩
    exact nx trivial
theorem neg3_good (r : RL) {k : Nat} (h : Rn k r) (hk : k < 137438953472) : Good P F.penumbraref03_Neg [.d (.agg (dR Ψ r))] [] (.d (.agg (dR Ψ (Ψ .cr (- rv r))))) [] := by
  refine G.penumbraref03_Neg fun C C2 hC hC2 => ?_
  have g := read3_good ⟨!r.neg, r.num, r.den⟩ (k := k) ⟨h.ln, h.ld, h.kn, h.kd⟩ hk
  rw [rv_neg] at g
  generalize Ψ .cr (- rv r) = R at *
  obtain ⟨s, x, y⟩ := r
  simp only at *
  cases s
  all_goals
    refine nx ?_
    refine ⟨_, hC _ _ _ g, ?_⟩
    exact nx trivial
theorem add3_good (a b : RL) {j k : Nat} (ha : Rn j a) (hb : Rn k b) (hj2 : j < 68719476736) (hk2 : k < 68719476736) :
    Good P F.penumbraref03_Add [.d (.agg (dR Ψ a)), .d (.agg (dR Ψ b))] [] (.d (.agg (dR Ψ (Ψ .cr (rv a + rv b))))) [] := by
  refine G.penumbraref03_Add fun C C2 hC hC2 => ?_
  have p1 := ha.N1 (by omega)
  have p2 := ha.N2 (by omega)
  have q1 := hb.N1 (by omega)
  have q2 := hb.N2 (by omega)
  have lp1 := ha.kn
  have lp2 := ha.kd
  have lq1 := hb.kn
  have lq2 := hb.kd
  have s1 := sign3_good a ha (by omega)
  have s2 := sign3_good b hb (by omega)
  have r1 := read3_good a ha (by omega)
  have r2 := read3_good b hb (by omega)
  obtain ⟨R, hR⟩ : ∃ R, R = Ψ .cr (rv a + rv b) := ⟨_, rfl⟩
  rw [← hR]
  by_cases h1 : rv a = 0
  · have : R = Ψ .cr (rv b) := by rw [hR, h1, Rat.zero_add]
    rw [sI_zero.2 h1] at s1
    rw [← this] at r2
    clear hR this
    obtain ⟨s, x, y⟩ := a
    obtain ⟨s', x', y'⟩ := b
    simp only at *
    refine nx ?_
    refine ⟨_, hC _ _ _ s1, ?_⟩
    refine nx ?_
    refine BrG.yes rfl ?_
    refine nx ?_
    refine ⟨_, hC _ _ _ r2, ?_⟩
    exact nx trivial
  by_cases h2 : rv b = 0
  · have : R = Ψ .cr (rv a) := by rw [hR, h2, Rat.add_zero]
    have h3 := mt sI_zero.1 h1
    rw [sI_zero.2 h2] at s2
    rw [← this] at r1
    clear hR this h1
    generalize Ψ .sI (rv a) = t at *
    obtain ⟨s, x, y⟩ := a
    obtain ⟨s', x', y'⟩ := b
    simp only at *
    refine nx ?_
    refine ⟨_, hC _ _ _ s1, ?_⟩
    refine nx ?_
    refine BrG.split (fun h => ?_) (fun h => ?_)
    · exact absurd (by have := h; simp only [wz] at this ⊢; omega) h3
    refine nx ?_
    refine ⟨_, hC _ _ _ s2, ?_⟩
    refine nx ?_
    refine BrG.yes rfl ?_
    refine nx ?_
    refine ⟨_, hC _ _ _ r1, ?_⟩
    exact nx trivial
  have h3 := mt sI_zero.1 h1
  have h4 := mt sI_zero.1 h2
  have hda : nv a.den ≠ 0 := fun c => h1 (rv_zero_iff.2 (.inr c))
  have hdb : nv b.den ≠ 0 := fun c => h2 (rv_zero_iff.2 (.inr c))
  rw [rv_add hda hdb] at hR
  have m1 := mul1_good a.num b.den p1 q2 (by omega) (by omega)
  have m2 := mul1_good b.num a.den q1 p2 (by omega) (by omega)
  have m3 := mul1_good a.den b.den p2 q2 (by omega) (by omega)
  have b1 : nv a.num * nv b.den < 4294967296 ^ (j + k) := lt_mul_pow (nv_lt_pow p1.lim lp1) (nv_lt_pow q2.lim lq2)
  have b2 : nv b.num * nv a.den < 4294967296 ^ (j + k) := by rw [Nat.add_comm]; exact lt_mul_pow (nv_lt_pow q1.lim lq1) (nv_lt_pow p2.lim lp2)
  have b3 : nv a.den * nv b.den < 4294967296 ^ (j + k) := lt_mul_pow (nv_lt_pow p2.lim lp2) (nv_lt_pow q2.lim lq2)
  clear h1 h2 r1 r2 hda hdb
  generalize Ψ .sI (rv a) = t1 at *
  generalize Ψ .sI (rv b) = t2 at *
  generalize nv a.num * nv b.den = x at *
  generalize nv b.num * nv a.den = y at *
  generalize nv a.den * nv b.den = z at *
  obtain ⟨s, n1, d1⟩ := a
  obtain ⟨t, n2, d2⟩ := b
  simp only at *
  have hNx := N_cn b1 (by omega)
  have ny := N_cn b2 (by omega)
  have nz := N_cn b3 (by omega)
  have lx := len_cn.2 b1
  have ly := len_cn.2 b2
  have lz := len_cn.2 b3
  have gadd := add1_good (Ψ .cn x) (Ψ .cn y) hNx ny (by omega) (by omega)
  rw [nv_cn, nv_cn] at gadd
  have badd : x + y < 4294967296 ^ (j + k + 1) := by rw [Nat.pow_succ]; omega
  have bs1 : x - y < 4294967296 ^ (j + k) := by omega
  have bs2 : y - x < 4294967296 ^ (j + k) := by omega
  have g1 := read3_good ⟨s, Ψ .cn (x + y), Ψ .cn z⟩ (k := j + k + 1) ⟨lim_cn _, lim_cn _, len_cn.2 badd, by simp only; omega⟩ (by omega)
  have g2 := read3_good ⟨s, Ψ .cn (x - y), Ψ .cn z⟩ (k := j + k + 1) ⟨lim_cn _, lim_cn _, by have := len_cn.2 bs1; simp only; omega, by simp only; omega⟩ (by omega)
  have g3 := read3_good ⟨t, Ψ .cn (y - x), Ψ .cn z⟩ (k := j + k + 1) ⟨lim_cn _, lim_cn _, by have := len_cn.2 bs2; simp only; omega, by simp only; omega⟩ (by omega)
  rw [rv_mk, nv_cn, nv_cn] at g1 g2 g3
  have gc := cmp1_good (Ψ .cn x) (Ψ .cn y) hNx ny
  rw [nv_cn, nv_cn] at gc
  have hci := @cmpI_nonneg x y
  have gsub : y ≤ x → _ := fun h => sub1_good (Ψ .cn x) (Ψ .cn y) hNx ny (by omega) (by rw [nv_cn, nv_cn]; exact h)
  have gsub3 : x ≤ y → _ := fun h => sub1_good (Ψ .cn y) (Ψ .cn x) ny hNx (by omega) (by rw [nv_cn, nv_cn]; exact h)
  rw [nv_cn, nv_cn] at gsub gsub3
  have e1 : s = t → mkRat (sg s (x + y)) z = mkRat (sg s x + sg t y) z := fun h => by subst h; rw [sg_add_same]
  have e2 : s ≠ t → y ≤ x → mkRat (sg s (x - y)) z = mkRat (sg s x + sg t y) z := fun h h2 => by rw [sg_add_diff h h2]
  have e3 : s ≠ t → x ≤ y → mkRat (sg t (y - x)) z = mkRat (sg s x + sg t y) z := fun h h2 => by rw [Int.add_comm, sg_add_diff (fun c => h c.symm) h2]
  generalize Ψ .cmpI x y = c at *
  refine nx ?_
  refine ⟨_, hC _ _ _ s1, ?_⟩
  refine nx ?_
  refine BrG.split (fun h => ?_) (fun h => ?_)
  · exact absurd (by have := h; simp only [wz] at this ⊢; omega) h3
  refine nx ?_
  refine ⟨_, hC _ _ _ s2, ?_⟩
  refine nx ?_
  refine BrG.split (fun h => ?_) (fun h => ?_)
  · exact absurd (by have := h; simp only [wz] at this ⊢; omega) h4
  refine nx ?_
  refine ⟨_, hC _ _ _ m1, ?_⟩
  refine nx ?_
  refine ⟨_, hC _ _ _ m2, ?_⟩
  refine nx ?_
  refine ⟨_, hC _ _ _ m3, ?_⟩
  refine nx ?_
  refine BrG.split (fun h => ?_) (fun h => ?_)
  · have hst : s = t := by simpa using h
    rw [e1 hst, ← hR] at g1
    refine nx ?_
    refine ⟨_, hC _ _ _ gadd, ?_⟩
    refine nx ?_
    refine ⟨_, hC _ _ _ g1, ?_⟩
    exact nx trivial
  · have hst : s ≠ t := by simpa using h
    refine nx ?_
    refine ⟨_, hC _ _ _ gc, ?_⟩
    refine nx ?_
    refine BrG.split (fun h => ?_) (fun h => ?_)
    · have hge := hci.1 (of_decide_eq_true h)
      rw [e2 hst hge, ← hR] at g2
      refine nx ?_
      refine ⟨_, hC _ _ _ (gsub hge), ?_⟩
      refine nx ?_
      refine ⟨_, hC _ _ _ g2, ?_⟩
      exact nx trivial
    · have hlt := mt hci.2 (of_decide_eq_false h)
      rw [e3 hst (by omega), ← hR] at g3
      refine nx ?_
      refine ⟨_, hC _ _ _ (gsub3 (by omega)), ?_⟩
      refine nx ?_
      refine ⟨_, hC _ _ _ g3, ?_⟩
      exact nx trivial
theorem sub3_good (a b : RL) {j k : Nat} (ha : Rn j a) (hb : Rn k b) (hk : 0 < k) (hj2 : j < 68719476736) (hk2 : k < 68719476736) :
    Good P F.penumbraref03_Sub [.d (.agg (dR Ψ a)), .d (.agg (dR Ψ b))] [] (.d (.agg (dR Ψ (Ψ .cr (rv a - rv b))))) [] := by
  refine G.penumbraref03_Sub fun C C2 hC hC2 => ?_
  have g1 := neg3_good b hb (by omega)
  have g2 := add3_good a (Ψ .cr (- rv b)) ha (Rn_cr.2 (Qn_neg (Qn_rv hb hk))) hj2 hk2
  rw [rv_cr, ← Rat.sub_eq_add_neg] at g2
  generalize Ψ .cr (- rv b) = B at *
  generalize Ψ .cr (rv a - rv b) = R at *
  obtain ⟨s, x, y⟩ := a
  obtain ⟨s', x', y'⟩ := b
  refine nx ?_
  refine ⟨_, hC _ _ _ g1, ?_⟩
  refine nx ?_
  refine ⟨_, hC _ _ _ g2, ?_⟩
  exact nx trivial
theorem div3_good (a b : RL) {j k : Nat} (ha : Rn j a) (hb : Rn k b) (hj2 : j < 68719476736) (hk2 : k < 68719476736) :
    Good P F.penumbraref03_Div [.d (.agg (dR Ψ a)), .d (.agg (dR Ψ b))] [] (.tup [.d (.agg (dR Ψ (Ψ .cr (rv a / rv b)))), .d (.b (decide (rv b ≠ 0)))]) [] := by
  refine G.penumbraref03_Div fun C C2 hC hC2 => ?_
  have g1 := sign3_good b hb (by omega)
  have g3 := zero3_good
  have g4 := mul3_good a ⟨b.neg, b.den, b.num⟩ ha ⟨hb.ld, hb.ln, hb.kd, hb.kn⟩ hj2 hk2
  rw [rv_inv, ← Rat.div_def] at g4
  have z := @sI_zero (rv b)
  obtain ⟨R, hR⟩ : ∃ R, R = Ψ .cr (rv a / rv b) := ⟨_, rfl⟩
  obtain ⟨R2, hR2⟩ : ∃ R, R = decide (rv b ≠ 0) := ⟨_, rfl⟩
  rw [← hR, ← hR2]
  rw [← hR] at g4
  have hz : Ψ .sI (rv b) = 0 → R = Ψ .cr 0 ∧ R2 = false := fun c => by
    have h0 := z.1 c
    rw [hR, hR2, h0, Rat.div_def, Rat.inv_zero, Rat.mul_zero]
    exact ⟨rfl, decide_eq_false (fun q => q rfl)⟩
  have hnz : Ψ .sI (rv b) ≠ 0 → R2 = true := fun c => by
    rw [hR2]
    exact decide_eq_true (fun q => c (z.2 q))
  clear z hR hR2
  generalize Ψ .cr 0 = Z at *
  generalize Ψ .sI (rv b) = s at *
  obtain ⟨sa, xa, ya⟩ := a
  obtain ⟨sb, xb, yb⟩ := b
  simp only at *
  refine nx ?_
  refine ⟨_, hC _ _ _ g1, ?_⟩
  refine nx ?_
  refine BrG.split (fun h => ?_) (fun h => ?_)
  · have h0 : s = 0 := by have := h; simp only [wz] at this ⊢; omega
    obtain ⟨e1, e2⟩ := hz h0
    subst e1
    subst e2
    refine nx ?_
    refine ⟨_, hC _ _ _ g3, ?_⟩
    exact nx trivial
  · have h0 : s ≠ 0 := by have := h; simp only [wz] at this ⊢; omega
    have e1 := hnz h0
    subst e1
    refine nx ?_
    refine ⟨_, hC _ _ _ g4, ?_⟩
    exact nx trivial
theorem over3_good (a b : RL) {j k : Nat} (ha : Rn j a) (hb : Rn k b) (hj2 : j < 68719476736) (hk2 : k < 68719476736) :
    Good P F.penumbraref03_Over [.d (.agg (dR Ψ a)), .d (.agg (dR Ψ b))] [] (.d (.agg (dR Ψ (Ψ .cr (rv a / rv b))))) [] := by
  refine G.penumbraref03_Over fun C C2 hC hC2 => ?_
  have g1 := div3_good a b ha hb hj2 hk2
  generalize Ψ .cr (rv a / rv b) = R at *
  generalize decide (rv b ≠ 0) = R2 at *
  obtain ⟨sa, xa, ya⟩ := a
  obtain ⟨sb, xb, yb⟩ := b
  refine nx ?_
  refine ⟨_, hC _ _ _ g1, ?_⟩
  exact nx trivial
theorem cmp3_good (a b : RL) {j k : Nat} (ha : Rn j a) (hb : Rn k b) (hj : 0 < j) (hk : 0 < k) (hj2 : j < 68719476736) (hk2 : k < 68719476736) :
    Good P F.penumbraref03_Cmp [.d (.agg (dR Ψ a)), .d (.agg (dR Ψ b))] [] (.d (.i .i64 (Ψ .cI (rv a) (rv b)))) [] := by
  refine G.penumbraref03_Cmp fun C C2 hC hC2 => ?_
  have g1 := sub3_good a b ha hb hk hj2 hk2
  have g2 := sign3_good (Ψ .cr (rv a - rv b)) (Rn_cr.2 (Qn_sub (Qn_rv ha hj) (Qn_rv hb hk))) (by omega)
  rw [rv_cr, cI_sub] at g2
  generalize Ψ .cr (rv a - rv b) = R at *
  generalize Ψ .cI (rv a) (rv b) = c at *
  obtain ⟨sa, xa, ya⟩ := a
  obtain ⟨sb, xb, yb⟩ := b
  refine nx ?_
  refine ⟨_, hC _ _ _ g1, ?_⟩
  refine nx ?_
  refine ⟨_, hC _ _ _ g2, ?_⟩
  exact nx trivial
end Go.K.S
end
section
namespace Go.K.S
open Go Go.K
set_option maxHeartbeats 4000000
set_option maxRecDepth 20000
theorem is5_good (a b : VL) {j k : Nat} (ha : Vn j a) (hb : Vn k b) (hj : j < 1099511627776) (hk : k < 1099511627776) :
    Good P F.penumbraref05_Is [.d (.agg (dV Ψ a)), .d (.agg (dV Ψ b))] [] (.d (.b (decide (a = b)))) [] := by
  refine G.penumbraref05_Is fun C C2 hC hC2 => ?_
  have g1 := is3_good a.x b.x ha.x hb.x hj hk
  have g2 := is3_good a.y b.y ha.y hb.y hj hk
  have g3 := is3_good a.z b.z ha.z hb.z hj hk
  obtain ⟨R, hR⟩ : ∃ R, R = decide (a = b) := ⟨_, rfl⟩
  rw [← hR]
  have hR2 : R = (decide (a.x = b.x) && (decide (a.y = b.y) && decide (a.z = b.z))) := by
    rw [hR, ← Bool.decide_and, ← Bool.decide_and]
    exact decide_eq_decide.2 VL.ext_iff'
  clear hR
  generalize decide (a.x = b.x) = t1 at *
  generalize decide (a.y = b.y) = t2 at *
  generalize decide (a.z = b.z) = t3 at *
  subst hR2
  cases t1
  · refine nx ?_
    refine ⟨_, hC _ _ _ g1, ?_⟩
    exact nx trivial
  cases t2
  · refine nx ?_
    refine ⟨_, hC _ _ _ g1, ?_⟩
    refine nx ?_
    refine ⟨_, hC _ _ _ g2, ?_⟩
    exact nx trivial
  cases t3
  all_goals
    refine nx ?_
    refine ⟨_, hC _ _ _ g1, ?_⟩
    refine nx ?_
    refine ⟨_, hC _ _ _ g2, ?_⟩
    refine nx ?_
    refine ⟨_, hC _ _ _ g3, ?_⟩
    exact nx trivial
theorem zero5_good : Good P F.penumbraref05_Zero [] [] (.d (.agg (dV Ψ (Ψ .cV v0)))) [] := by
  refine G.penumbraref05_Zero fun C C2 hC hC2 => ?_
  have g := zero3_good
  have hV : Ψ .cV v0 = ⟨Ψ .cr 0, Ψ .cr 0, Ψ .cr 0⟩ := rfl
  rw [hV]
  generalize Ψ .cr 0 = Z at *
  refine nx ?_
  refine ⟨_, hC _ _ _ g, ?_⟩
  refine nx ?_
  refine ⟨_, hC _ _ _ g, ?_⟩
  refine nx ?_
  refine ⟨_, hC _ _ _ g, ?_⟩
  exact nx trivial
theorem read5_good (v : VL) {k : Nat} (h : Vn k v) (hk : k < 137438953472) : Good P F.penumbraref05_Read [.d (.agg (dV Ψ v))] [] (.d (.agg (dV Ψ (Ψ .cV (vv v))))) [] := by
  refine G.penumbraref05_Read fun C C2 hC hC2 => ?_
  have g1 := read3_good v.x h.x hk
  have g2 := read3_good v.y h.y hk
  have g3 := read3_good v.z h.z hk
  have hV : Ψ .cV (vv v) = ⟨Ψ .cr (rv v.x), Ψ .cr (rv v.y), Ψ .cr (rv v.z)⟩ := rfl
  rw [hV]
  generalize Ψ .cr (rv v.x) = X at *
  generalize Ψ .cr (rv v.y) = Y at *
  generalize Ψ .cr (rv v.z) = Z at *
  refine nx ?_
  refine ⟨_, hC _ _ _ g1, ?_⟩
  refine nx ?_
  refine ⟨_, hC _ _ _ g2, ?_⟩
  refine nx ?_
  refine ⟨_, hC _ _ _ g3, ?_⟩
  exact nx trivial
theorem add5_good (a b : VL) {k : Nat} (ha : Vn k a) (hb : Vn k b) (hk2 : k < 68719476736) :
    Good P F.penumbraref05_Add [.d (.agg (dV Ψ a)), .d (.agg (dV Ψ b))] [] (.d (.agg (dV Ψ (Ψ .cV (vadd (vv a) (vv b)))))) [] := by
  refine G.penumbraref05_Add fun C C2 hC hC2 => ?_
  have g1 := add3_good a.x b.x ha.x hb.x hk2 hk2
  have g2 := add3_good a.y b.y ha.y hb.y hk2 hk2
  have g3 := add3_good a.z b.z ha.z hb.z hk2 hk2
  have hV : Ψ .cV (vadd (vv a) (vv b)) = ⟨Ψ .cr (rv a.x + rv b.x), Ψ .cr (rv a.y + rv b.y), Ψ .cr (rv a.z + rv b.z)⟩ := rfl
  rw [hV]
  generalize Ψ .cr (rv a.x + rv b.x) = X at *
  generalize Ψ .cr (rv a.y + rv b.y) = Y at *
  generalize Ψ .cr (rv a.z + rv b.z) = Z at *
  refine nx ?_
  refine ⟨_, hC _ _ _ g1, ?_⟩
  refine nx ?_
  refine ⟨_, hC _ _ _ g2, ?_⟩
  refine nx ?_
  refine ⟨_, hC _ _ _ g3, ?_⟩
  exact nx trivial
theorem scale5_good (s : RL) (b : VL) {k : Nat} (ha : Rn k s) (hb : Vn k b) (hk2 : k < 68719476736) :
    Good P F.penumbraref05_Scale [.d (.agg (dR Ψ s)), .d (.agg (dV Ψ b))] [] (.d (.agg (dV Ψ (Ψ .cV (vmul (rv s) (vv b)))))) [] := by
  refine G.penumbraref05_Scale fun C C2 hC hC2 => ?_
  have g1 := mul3_good s b.x ha hb.x hk2 hk2
  have g2 := mul3_good s b.y ha hb.y hk2 hk2
  have g3 := mul3_good s b.z ha hb.z hk2 hk2
  have hV : Ψ .cV (vmul (rv s) (vv b)) = ⟨Ψ .cr (rv s * rv b.x), Ψ .cr (rv s * rv b.y), Ψ .cr (rv s * rv b.z)⟩ := rfl
  rw [hV]
  generalize Ψ .cr (rv s * rv b.x) = X at *
  generalize Ψ .cr (rv s * rv b.y) = Y at *
  generalize Ψ .cr (rv s * rv b.z) = Z at *
  refine nx ?_
  refine ⟨_, hC _ _ _ g1, ?_⟩
  refine nx ?_
  refine ⟨_, hC _ _ _ g2, ?_⟩
  refine nx ?_
  refine ⟨_, hC _ _ _ g3, ?_⟩
  exact nx trivial
theorem at8_good (o d : VL) (s : RL) {k : Nat} (ho : Vn k o) (hd : Vn k d) (hs : Rn k s) (hk : 0 < k) (hk2 : k < 34359738368) :
    Good P F.penumbraref08_At [.d (.agg (dV Ψ o)), .d (.agg (dV Ψ d)), .d (.agg (dR Ψ s))] [] (.d (.agg (dV Ψ (Ψ .cV (vadd (vv o) (vmul (rv s) (vv d))))))) [] := by
  refine G.penumbraref08_At fun C C2 hC hC2 => ?_
  have g1 := scale5_good s d hs hd (by omega)
  have q1 := Vn_cV (Pn_mul (Qn_rv hs hk) (Pn_vv hd hk) (by omega))
  have g2 := add5_good o (Ψ .cV (vmul (rv s) (vv d))) (ho.mono (show k ≤ k + k by omega)) q1 (by omega)
  rw [vv_cV] at g2
  generalize Ψ .cV (vadd (vv o) (vmul (rv s) (vv d))) = W at *
  generalize Ψ .cV (vmul (rv s) (vv d)) = X at *
  refine nx ?_
  refine ⟨_, hC _ _ _ g1, ?_⟩
  refine nx ?_
  refine ⟨_, hC _ _ _ g2, ?_⟩
  exact nx trivial
end Go.K.S
end
section
namespace Go.K
open Go
structure TL where
  a : VL
  b : VL
  c : VL
structure T3 where
  a : V3
  b : V3
  c : V3
def tv (t : TL) : T3 := ⟨vv t.a, vv t.b, vv t.c⟩
def dT (Ψ : (t : Sd) → STy t) (t : TL) : List D := dV Ψ t.a ++ dV Ψ t.b ++ dV Ψ t.c
structure Tn (k : Nat) (t : TL) : Prop where
  a : Vn k t.a
  b : Vn k t.b
  c : Vn k t.c
theorem Tn.mono {j k : Nat} {t : TL} (h : Tn j t) (hjk : j ≤ k) : Tn k t := ⟨h.a.mono hjk, h.b.mono hjk, h.c.mono hjk⟩
def m0 : M3 := ⟨0, 0, 0⟩
def hitS (o d : V3) (t : T3) : Option M3 :=
  if vdot (vsub t.b t.a) (vcross d (vsub t.c t.a)) = 0 then none
  else if 1 / vdot (vsub t.b t.a) (vcross d (vsub t.c t.a)) * vdot (vsub o t.a) (vcross d (vsub t.c t.a)) < 0 then none
  else if 1 / vdot (vsub t.b t.a) (vcross d (vsub t.c t.a)) * vdot d (vcross (vsub o t.a) (vsub t.b t.a)) < 0 ∨ 1 / vdot (vsub t.b t.a) (vcross d (vsub t.c t.a)) * vdot (vsub t.c t.a) (vcross (vsub o t.a) (vsub t.b t.a)) ≤ 0
      ∨ 1 < 1 / vdot (vsub t.b t.a) (vcross d (vsub t.c t.a)) * vdot (vsub o t.a) (vcross d (vsub t.c t.a)) + 1 / vdot (vsub t.b t.a) (vcross d (vsub t.c t.a)) * vdot d (vcross (vsub o t.a) (vsub t.b t.a)) then none
  else some ⟨1 / vdot (vsub t.b t.a) (vcross d (vsub t.c t.a)) * vdot (vsub t.c t.a) (vcross (vsub o t.a) (vsub t.b t.a)), 1 / vdot (vsub t.b t.a) (vcross d (vsub t.c t.a)) * vdot (vsub o t.a) (vcross d (vsub t.c t.a)),
      1 / vdot (vsub t.b t.a) (vcross d (vsub t.c t.a)) * vdot d (vcross (vsub o t.a) (vsub t.b t.a))⟩
def hitM (o d : V3) (t : T3) : M3 := (hitS o d t).getD m0
def hitOk (o d : V3) (t : T3) : Bool := (hitS o d t).isSome
theorem of01 : ((0 : Int) : Rat) / ((1 : Int) : Rat) = 0 := by
  have : ((1 : Int) : Rat) = 1 := rfl
  have h2 : ((0 : Int) : Rat) = 0 := rfl
  rw [this, h2]; grind
theorem of11 : ((1 : Int) : Rat) / ((1 : Int) : Rat) = 1 := by
  have : ((1 : Int) : Rat) = 1 := rfl
  rw [this]; grind
end Go.K
namespace Go.K.S
open Go Go.K
set_option maxHeartbeats 8000000
set_option maxRecDepth 20000
theorem sides_good (t : TL) {k : Nat} (h : Tn k t) (hk : 0 < k) (hk2 : k < 68719476736) :
    Good P F.tri_sides [.d (.agg (dT Ψ t))] [] (.tup [.d (.agg (dV Ψ (Ψ .cV (vsub (vv t.b) (vv t.a))))), .d (.agg (dV Ψ (Ψ .cV (vsub (vv t.c) (vv t.a)))))]) [] := by
  refine G.tri_sides fun C C2 hC hC2 => ?_
  have g1 := vsub_good t.b t.a h.b h.a hk hk2
  have g2 := vsub_good t.c t.a h.c h.a hk hk2
  exact rn trivial
theorem of01_good : Good P F.rat_Of [.d (.i .i64 0), .d (.i .i64 1)] [] (.d (.agg (dR Ψ (Ψ .cr 0)))) [] := by
  have g := rof_good 0 1 (by omega) (by omega) (by omega) (by omega)
  rw [of01] at g
  exact g
theorem of11_good : Good P F.rat_Of [.d (.i .i64 1), .d (.i .i64 1)] [] (.d (.agg (dR Ψ (Ψ .cr 1)))) [] := by
  have g := rof_good 1 1 (by omega) (by omega) (by omega) (by omega)
  rw [of11] at g
  exact g
theorem hit_good (o d : VL) (t : TL) {k : Nat} (ho : Vn k o) (hd : Vn k d) (ht : Tn k t) (hk : 0 < k) (hk2 : k < 134217728) :
    Good P F.tri_Hit [.d (.agg (dV Ψ o)), .d (.agg (dV Ψ d)), .d (.agg (dT Ψ t))] [] (.tup [.d (.agg (dM Ψ (Ψ .cM (hitM (vv o) (vv d) (tv t))))), .d (.b (hitOk (vv o) (vv d) (tv t)))]) [] := by
  refine G.tri_Hit fun C C2 hC hC2 => ?_
  have po := Pn_vv ho hk
  have pd := Pn_vv hd hk
  have pa := Pn_vv ht.a hk
  have g0 := of01_good
  have g1 := of11_good
  have gs := sides_good t ht hk (by omega)
  have pb := Pn_sub (Pn_vv ht.b hk) pa
  have pc := Pn_sub (Pn_vv ht.c hk) pa
  have gp := vcross_good d _ (hd.mono (show k ≤ k + k + 1 by omega)) (Vn_cV pc) (by omega) (by omega)
  rw [vv_cV] at gp
  have pp := Pn_cross pd pc (by omega)
  have gdet := vdot_good _ _ ((Vn_cV pb).mono (show _ ≤ 6 * k + 3 by omega)) ((Vn_cV pp).mono (show _ ≤ 6 * k + 3 by omega)) (by omega) (by omega)
  rw [vv_cV, vv_cV] at gdet
  have qdet := (Qn_dot pb pp (by omega)).mono (show _ ≤ 24 * k + 14 by omega)
  have gk := rdiv_good (Ψ .cr 1) _ (Rn_cr.2 (Qn_one (k := 1) (by omega))) (Rn_cr.2 qdet) (by omega) (by omega) (by omega) (by omega)
  rw [rv_cr, rv_cr] at gk
  have qk := (Qn_div (Qn_one (k := 1) (by omega)) qdet (by omega)).mono (show _ ≤ 24 * k + 15 by omega)
  have gf := vsub_good o t.a ho ht.a hk (by omega)
  have pf := Pn_sub po pa
  have gfp := vdot_good _ _ ((Vn_cV pf).mono (show _ ≤ 6 * k + 3 by omega)) ((Vn_cV pp).mono (show _ ≤ 6 * k + 3 by omega)) (by omega) (by omega)
  rw [vv_cV, vv_cV] at gfp
  have qfp := (Qn_dot pf pp (by omega)).mono (show _ ≤ 24 * k + 14 by omega)
  have gu := prod2_good _ _ (Rn_cr.2 qk) ((Rn_cr.2 qfp).mono (show _ ≤ 24 * k + 15 by omega)) (by omega) (by omega)
  rw [rv_cr, rv_cr] at gu
  have qu := (Qn_mul qk qfp (by omega)).mono (show _ ≤ 60 * k + 60 by omega)
  have gsu := sign_good _ (Rn_cr.2 qu) (by omega)
  rw [rv_cr] at gsu
  have gq := vcross_good _ _ (Vn_cV pf) (Vn_cV pb) (by omega) (by omega)
  rw [vv_cV, vv_cV] at gq
  have pq := Pn_cross pf pb (by omega)
  have gdq := vdot_good d _ (hd.mono (show _ ≤ 8 * k + 5 by omega)) ((Vn_cV pq).mono (show _ ≤ 8 * k + 5 by omega)) (by omega) (by omega)
  rw [vv_cV] at gdq
  have qdq := (Qn_dot pd pq (by omega)).mono (show _ ≤ 30 * k + 20 by omega)
  have gv := prod2_good _ _ ((Rn_cr.2 qk).mono (show _ ≤ 30 * k + 20 by omega)) ((Rn_cr.2 qdq).mono (show _ ≤ 30 * k + 20 by omega)) (by omega) (by omega)
  rw [rv_cr, rv_cr] at gv
  have qv := (Qn_mul qk qdq (by omega)).mono (show _ ≤ 60 * k + 60 by omega)
  have gsv := sign_good _ (Rn_cr.2 qv) (by omega)
  rw [rv_cr] at gsv
  have gcq := vdot_good _ _ ((Vn_cV pc).mono (show _ ≤ 8 * k + 5 by omega)) ((Vn_cV pq).mono (show _ ≤ 8 * k + 5 by omega)) (by omega) (by omega)
  rw [vv_cV, vv_cV] at gcq
  have qcq := (Qn_dot pc pq (by omega)).mono (show _ ≤ 32 * k + 24 by omega)
  have gss := prod2_good _ _ ((Rn_cr.2 qk).mono (show _ ≤ 32 * k + 24 by omega)) ((Rn_cr.2 qcq).mono (show _ ≤ 32 * k + 24 by omega)) (by omega) (by omega)
  rw [rv_cr, rv_cr] at gss
  have qs := (Qn_mul qk qcq (by omega)).mono (show _ ≤ 60 * k + 60 by omega)
  have gsss := sign_good _ (Rn_cr.2 qs) (by omega)
  rw [rv_cr] at gsss
  have guv := sum2_good _ _ (Rn_cr.2 qu) (Rn_cr.2 qv) (by omega) (by omega)
  rw [rv_cr, rv_cr] at guv
  have quv := Qn_add qu qv
  have gcmp := rcmp_good _ (Ψ .cr 1) (Rn_cr.2 quv) (Rn_cr.2 (Qn_one (k := 1) (by omega))) (by omega) (by omega)
  rw [rv_cr, rv_cr] at gcmp
  clear po pd pa pb pc pp qdet qk pf qfp qu pq qdq qv qcq qs quv
  have hm : hitM (vv o) (vv d) (tv t) = (hitS (vv o) (vv d) (tv t)).getD m0 := rfl
  have hok : hitOk (vv o) (vv d) (tv t) = (hitS (vv o) (vv d) (tv t)).isSome := rfl
  rw [hm, hok]
  clear hm hok
  unfold hitS
  simp only [show (tv t).a = vv t.a from rfl, show (tv t).b = vv t.b from rfl, show (tv t).c = vv t.c from rfl]
  generalize vdot (vsub (vv t.b) (vv t.a)) (vcross (vv d) (vsub (vv t.c) (vv t.a))) = det at *
  generalize vdot (vsub (vv o) (vv t.a)) (vcross (vv d) (vsub (vv t.c) (vv t.a))) = fp at *
  generalize vdot (vv d) (vcross (vsub (vv o) (vv t.a)) (vsub (vv t.b) (vv t.a))) = dq at *
  generalize vdot (vsub (vv t.c) (vv t.a)) (vcross (vsub (vv o) (vv t.a)) (vsub (vv t.b) (vv t.a))) = cq at *
  generalize vsub (vv t.b) (vv t.a) = B at *
  generalize vsub (vv t.c) (vv t.a) = Cc at *
  generalize vsub (vv o) (vv t.a) = f at *
  generalize vcross (vv d) Cc = p at *
  generalize vcross f B = q at *
  have hz : Ψ .cM m0 = ⟨Ψ .cr 0, Ψ .cr 0, Ψ .cr 0⟩ := rfl
  by_cases h0 : det = 0
  · rw [if_pos h0]
    rw [decide_eq_false (fun c => c h0)] at gk
    rw [Option.getD_none, hz]
    exact rn trivial
  rw [if_neg h0]
  rw [decide_eq_true h0] at gk
  generalize 1 / det = kk at *
  have zu := @sI_neg (kk * fp)
  generalize kk * fp = u at *
  generalize Ψ .sI u = su at *
  by_cases hu : u < 0
  · rw [if_pos hu]
    have zu' := lt_true.2 (zu.2 hu)
    rw [Option.getD_none, hz]
    exact rn trivial
  rw [if_neg hu]
  have zu' := lt_false.2 (Int.not_lt.1 (mt zu.1 hu))
  have zv := @sI_neg (kk * dq)
  generalize kk * dq = v at *
  generalize Ψ .sI v = sv at *
  by_cases hv : v < 0
  · rw [if_pos (.inl hv)]
    have zv' := lt_true.2 (zv.2 hv)
    rw [Option.getD_none, hz]
    exact rn trivial
  have zv' := lt_false.2 (Int.not_lt.1 (mt zv.1 hv))
  have zs := @sI_nonpos (kk * cq)
  generalize kk * cq = s at *
  generalize Ψ .sI s = ss at *
  by_cases hs : s ≤ 0
  · rw [if_pos (.inr (.inl hs))]
    have zs' := le_true.2 (zs.2 hs)
    rw [Option.getD_none, hz]
    exact rn trivial
  have zs' := le_false.2 (Int.not_le.1 (mt zs.1 hs))
  have zc := @cI_pos (u + v) 1
  generalize Ψ .cI (u + v) 1 = ic at *
  by_cases hc : 1 < u + v
  · rw [if_pos (.inr (.inr hc))]
    have zc' := lt_true.2 (zc.2 hc)
    rw [Option.getD_none, hz]
    exact rn trivial
  have zc' := lt_false.2 (Int.not_lt.1 (mt zc.1 hc))
  rw [if_neg (fun c => c.elim hv fun c => c.elim hs hc), Option.getD_some]
  have hmm : Ψ .cM ⟨s, u, v⟩ = ⟨Ψ .cr s, Ψ .cr u, Ψ .cr v⟩ := rfl
  rw [hmm]
  exact rn trivial
end Go.K.S
end
