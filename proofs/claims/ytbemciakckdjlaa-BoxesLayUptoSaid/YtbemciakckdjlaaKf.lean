/-
  Parts of the proof, joined by a program of this work: KRef10, KRefJoin, KVec, KFix10, KLawLay.
-/
import Derived.Test.YtbemciakckdjlaaKe
section
/-
  Contracts of the reference for boxes: Is, IsSpan, Min, Max, join, Join, Around, Holds.
-/
namespace Go.K
theorem decide_holds (b : B3) (p : V3) : decide (holds b p) = (decide (btw p.x b.lo.x b.hi.x) && (decide (btw p.y b.lo.y b.hi.y) && decide (btw p.z b.lo.z b.hi.z))) := by
  rw [← Bool.decide_and, ← Bool.decide_and]; rfl
end Go.K
namespace Go.K.S
open Go Go.K
set_option maxHeartbeats 8000000
set_option maxRecDepth 20000
set_option linter.unusedVariables false
set_option linter.unusedSimpArgs false

theorem is10_good (a b : BL) {j k : Nat} (ha : Bn j a) (hb : Bn k b) (hj : j < 1099511627776) (hk : k < 1099511627776) :
    Good P F.penumbraref10_Is [.d (.agg (dB Ψ a)), .d (.agg (dB Ψ b))] [] (.d (.b (decide (a = b)))) [] := by
  refine G.penumbraref10_Is fun C C2 hC hC2 => ?_
  have g1 := is5_good a.lo b.lo ha.lo hb.lo hj hk
  have g2 := is5_good a.hi b.hi ha.hi hb.hi hj hk
  obtain ⟨R, hR⟩ : ∃ R, R = decide (a = b) := ⟨_, rfl⟩
  rw [← hR]
  have hR2 : R = (decide (a.lo = b.lo) && decide (a.hi = b.hi)) := by
    rw [hR, ← Bool.decide_and]
    exact decide_eq_decide.2 BL.ext_iff'
  clear hR
  generalize decide (a.lo = b.lo) = t1 at *
  generalize decide (a.hi = b.hi) = t2 at *
  subst hR2
  cases t1
  · refine nx ?_
    refine ⟨_, hC _ _ _ g1, ?_⟩
    exact nx trivial
  cases t2
  all_goals
    refine nx ?_
    refine ⟨_, hC _ _ _ g1, ?_⟩
    refine nx ?_
    refine ⟨_, hC _ _ _ g2, ?_⟩
    exact nx trivial

theorem isspan_good (a b : SL) {j k : Nat} (ha : Rn j a.from') (ha' : Rn j a.to') (hb : Rn k b.from') (hb' : Rn k b.to') (hj : j < 1099511627776) (hk : k < 1099511627776) :
    Good P F.penumbraref10_IsSpan [.d (.agg (dS Ψ a)), .d (.agg (dS Ψ b))] [] (.d (.b (decide (a = b)))) [] := by
  refine G.penumbraref10_IsSpan fun C C2 hC hC2 => ?_
  have g1 := is3_good a.from' b.from' ha hb hj hk
  have g2 := is3_good a.to' b.to' ha' hb' hj hk
  obtain ⟨R, hR⟩ : ∃ R, R = decide (a = b) := ⟨_, rfl⟩
  rw [← hR]
  have hR2 : R = (decide (a.from' = b.from') && (decide (a.to' = b.to') && decide (a.op = b.op))) := by
    rw [hR, ← Bool.decide_and, ← Bool.decide_and]
    exact decide_eq_decide.2 SL.ext_iff'
  clear hR
  generalize decide (a.from' = b.from') = t1 at *
  generalize decide (a.to' = b.to') = t2 at *
  obtain ⟨fa, ta, oa⟩ := a
  obtain ⟨fb, tb, ob⟩ := b
  simp only at *
  subst hR2
  cases t1
  · refine nx ?_
    refine ⟨_, hC _ _ _ g1, ?_⟩
    exact nx trivial
  cases t2
  · refine nx ?_
    refine ⟨_, hC _ _ _ g1, ?_⟩
    refine nx ?_
    refine ⟨_, hC _ _ _ g2, ?_⟩
    exact nx trivial
  cases oa <;> cases ob
  all_goals
    refine nx ?_
    refine ⟨_, hC _ _ _ g1, ?_⟩
    refine nx ?_
    refine ⟨_, hC _ _ _ g2, ?_⟩
    exact nx trivial

theorem min10_good (a b : RL) {k : Nat} (ha : Rn k a) (hb : Rn k b) (hk : 0 < k) (hk2 : k < 68719476736) :
    Good P F.penumbraref10_Min [.d (.agg (dR Ψ a)), .d (.agg (dR Ψ b))] [] (.d (.agg (dR Ψ (Ψ .cr (rmin (rv a) (rv b)))))) [] := by
  refine G.penumbraref10_Min fun C C2 hC hC2 => ?_
  have g := cmp3_good a b ha hb hk hk hk2 hk2
  have g1 := read3_good a ha (by omega)
  have g2 := read3_good b hb (by omega)
  have z := @cI_nonpos (rv a) (rv b)
  obtain ⟨R, hR⟩ : ∃ R, R = Ψ .cr (rmin (rv a) (rv b)) := ⟨_, rfl⟩
  rw [← hR]
  by_cases c : rv a ≤ rv b
  · have e : R = Ψ .cr (rv a) := by rw [hR, rmin, if_pos c]
    have := z.2 c
    rw [← e] at g1
    clear e hR z
    generalize Ψ .cI (rv a) (rv b) = i at *
    refine nx ?_
    refine ⟨_, hC _ _ _ g, ?_⟩
    refine nx ?_
    first | rw [le_true.2 this] | rw [lt_true.2 this] | rw [eq_true'.2 this] | rw [ne_true'.2 this]
    refine nx ?_
    refine ⟨_, hC _ _ _ g1, ?_⟩
    exact nx trivial
  · have e : R = Ψ .cr (rv b) := by rw [hR, rmin, if_neg c]
    have := mt z.1 c
    rw [← e] at g2
    clear e hR z
    generalize Ψ .cI (rv a) (rv b) = i at *
    refine nx ?_
    refine ⟨_, hC _ _ _ g, ?_⟩
    refine nx ?_
    first | rw [le_false.2 (by omega)] | rw [lt_false.2 (by omega)] | rw [eq_false'.2 this] | rw [ne_false'.2 (by omega)]
    refine nx ?_
    refine ⟨_, hC _ _ _ g2, ?_⟩
    exact nx trivial

theorem max10_good (a b : RL) {k : Nat} (ha : Rn k a) (hb : Rn k b) (hk : 0 < k) (hk2 : k < 68719476736) :
    Good P F.penumbraref10_Max [.d (.agg (dR Ψ a)), .d (.agg (dR Ψ b))] [] (.d (.agg (dR Ψ (Ψ .cr (rmax (rv a) (rv b)))))) [] := by
  refine G.penumbraref10_Max fun C C2 hC hC2 => ?_
  have g := cmp3_good a b ha hb hk hk hk2 hk2
  have g1 := read3_good a ha (by omega)
  have g2 := read3_good b hb (by omega)
  have z := @cI_nonneg (rv a) (rv b)
  obtain ⟨R, hR⟩ : ∃ R, R = Ψ .cr (rmax (rv a) (rv b)) := ⟨_, rfl⟩
  rw [← hR]
  by_cases c : rv b ≤ rv a
  · have e : R = Ψ .cr (rv a) := by rw [hR, rmax, if_pos c]
    have := z.2 c
    rw [← e] at g1
    clear e hR z
    generalize Ψ .cI (rv a) (rv b) = i at *
    refine nx ?_
    refine ⟨_, hC _ _ _ g, ?_⟩
    refine nx ?_
    first | rw [le_true.2 this] | rw [lt_true.2 this] | rw [eq_true'.2 this] | rw [ne_true'.2 this]
    refine nx ?_
    refine ⟨_, hC _ _ _ g1, ?_⟩
    exact nx trivial
  · have e : R = Ψ .cr (rv b) := by rw [hR, rmax, if_neg c]
    have := mt z.1 c
    rw [← e] at g2
    clear e hR z
    generalize Ψ .cI (rv a) (rv b) = i at *
    refine nx ?_
    refine ⟨_, hC _ _ _ g, ?_⟩
    refine nx ?_
    first | rw [le_false.2 (by omega)] | rw [lt_false.2 (by omega)] | rw [eq_false'.2 this] | rw [ne_false'.2 (by omega)]
    refine nx ?_
    refine ⟨_, hC _ _ _ g2, ?_⟩
    exact nx trivial

theorem holds10_good (b : BL) (p : VL) {k : Nat} (hb : Bn k b) (hp : Vn k p) (hk : 0 < k) (hk2 : k < 68719476736) :
    Good P F.penumbraref10_Holds [.d (.agg (dB Ψ b)), .d (.agg (dV Ψ p))] [] (.d (.b (decide (holds (bv b) (vv p))))) [] := by
  refine G.penumbraref10_Holds fun C C2 hC hC2 => ?_
  have g1 := between3_good p.x b.lo.x b.hi.x hp.x hb.lo.x hb.hi.x hk hk2
  have g2 := between3_good p.y b.lo.y b.hi.y hp.y hb.lo.y hb.hi.y hk hk2
  have g3 := between3_good p.z b.lo.z b.hi.z hp.z hb.lo.z hb.hi.z hk hk2
  obtain ⟨R, hR⟩ : ∃ R, R = decide (holds (bv b) (vv p)) := ⟨_, rfl⟩
  rw [← hR]
  rw [decide_holds] at hR
  have e1 : decide (btw (vv p).x (bv b).lo.x (bv b).hi.x) = decide (rv b.lo.x ≤ rv p.x ∧ rv p.x ≤ rv b.hi.x) := decide_eq_decide.2 Iff.rfl
  have e2 : decide (btw (vv p).y (bv b).lo.y (bv b).hi.y) = decide (rv b.lo.y ≤ rv p.y ∧ rv p.y ≤ rv b.hi.y) := decide_eq_decide.2 Iff.rfl
  have e3 : decide (btw (vv p).z (bv b).lo.z (bv b).hi.z) = decide (rv b.lo.z ≤ rv p.z ∧ rv p.z ≤ rv b.hi.z) := decide_eq_decide.2 Iff.rfl
  rw [e1, e2, e3] at hR
  clear e1 e2 e3
  generalize decide (rv b.lo.x ≤ rv p.x ∧ rv p.x ≤ rv b.hi.x) = t1 at *
  generalize decide (rv b.lo.y ≤ rv p.y ∧ rv p.y ≤ rv b.hi.y) = t2 at *
  generalize decide (rv b.lo.z ≤ rv p.z ∧ rv p.z ≤ rv b.hi.z) = t3 at *
  subst hR
  cases t1
  · refine nx ?_
    refine ⟨_, hC _ _ _ g1, ?_⟩
    exact nx trivial
  cases t2
  · refine nx ?_
    refine ⟨_, hC _ _ _ g1, ?_⟩
    refine nx ?_
    refine ⟨_, hC _ _ _ g2, ?_⟩
    exact nx trivial
  cases t3
  all_goals
    refine nx ?_
    refine ⟨_, hC _ _ _ g1, ?_⟩
    refine nx ?_
    refine ⟨_, hC _ _ _ g2, ?_⟩
    refine nx ?_
    refine ⟨_, hC _ _ _ g3, ?_⟩
    exact nx trivial
end Go.K.S
end
section
/-
  Contracts of the reference for boxes: join, Join, Around.
-/
namespace Go.K.S
open Go Go.K
set_option maxHeartbeats 8000000
set_option maxRecDepth 20000
set_option linter.unusedVariables false
set_option linter.unusedSimpArgs false

theorem join2_good (a b : BL) {k : Nat} (ha : Bn k a) (hb : Bn k b) (hk : 0 < k) (hk2 : k < 68719476736) :
    Good P F.penumbraref10_join [.d (.agg (dB Ψ a)), .d (.agg (dB Ψ b))] [] (.d (.agg (dB Ψ (Ψ .cB (bjoin (bv a) (bv b)))))) [] := by
  refine G.penumbraref10_join fun C C2 hC hC2 => ?_
  have g1 := min10_good a.lo.x b.lo.x ha.lo.x hb.lo.x hk hk2
  have g2 := min10_good a.lo.y b.lo.y ha.lo.y hb.lo.y hk hk2
  have g3 := min10_good a.lo.z b.lo.z ha.lo.z hb.lo.z hk hk2
  have g4 := max10_good a.hi.x b.hi.x ha.hi.x hb.hi.x hk hk2
  have g5 := max10_good a.hi.y b.hi.y ha.hi.y hb.hi.y hk hk2
  have g6 := max10_good a.hi.z b.hi.z ha.hi.z hb.hi.z hk hk2
  have e : Ψ .cB (bjoin (bv a) (bv b)) = ⟨⟨Ψ .cr (rmin (rv a.lo.x) (rv b.lo.x)), Ψ .cr (rmin (rv a.lo.y) (rv b.lo.y)), Ψ .cr (rmin (rv a.lo.z) (rv b.lo.z))⟩, ⟨Ψ .cr (rmax (rv a.hi.x) (rv b.hi.x)), Ψ .cr (rmax (rv a.hi.y) (rv b.hi.y)), Ψ .cr (rmax (rv a.hi.z) (rv b.hi.z))⟩⟩ := rfl
  rw [e]
  generalize Ψ .cr (rmin (rv a.lo.x) (rv b.lo.x)) = r1 at *
  generalize Ψ .cr (rmin (rv a.lo.y) (rv b.lo.y)) = r2 at *
  generalize Ψ .cr (rmin (rv a.lo.z) (rv b.lo.z)) = r3 at *
  generalize Ψ .cr (rmax (rv a.hi.x) (rv b.hi.x)) = r4 at *
  generalize Ψ .cr (rmax (rv a.hi.y) (rv b.hi.y)) = r5 at *
  generalize Ψ .cr (rmax (rv a.hi.z) (rv b.hi.z)) = r6 at *
  refine nx ?_
  refine ⟨_, hC _ _ _ g1, ?_⟩
  refine nx ?_
  refine ⟨_, hC _ _ _ g2, ?_⟩
  refine nx ?_
  refine ⟨_, hC _ _ _ g3, ?_⟩
  refine nx ?_
  refine ⟨_, hC _ _ _ g4, ?_⟩
  refine nx ?_
  refine ⟨_, hC _ _ _ g5, ?_⟩
  refine nx ?_
  refine ⟨_, hC _ _ _ g6, ?_⟩
  exact nx trivial

theorem join10_good (l : List BL) {k : Nat} (hl : ∀ b, b ∈ l → Bn k b) (hln : l.length < 68719476736) (hk : 0 < k) (hk2 : k < 68719476736) :
    Good P F.penumbraref10_Join [.d (.sl (Ψ .dBs l))] [] (.d (.agg (dB Ψ (Ψ .cB (bjoins l))))) [] := by
  refine G.penumbraref10_Join fun C C2 hC hC2 => ?_
  have hq : ∀ i, Bq k (bjoins (l.take i)) := fun i => Bq_joins hk _ (fun b hb => hl b (List.mem_of_mem_take hb))
  have hst : ∀ i r, l[i]? = some r → 0 < i → bjoins (l.take (i + 1)) = bjoin (bjoins (l.take i)) (bv r) := fun i r hr hi => by
    have hlt := (List.getElem?_eq_some_iff.1 hr).1
    rw [take_succ_of hr, bjoins_snoc _ _ (fun c => by
      have := congrArg List.length c
      rw [List.length_take, List.length_nil] at this
      omega)]
  have hst0 : ∀ r, l[0]? = some r → bjoins (l.take 1) = bv r := fun r hr => by rw [take_succ_of hr]; rfl
  have hlast : bjoins (l.take l.length) = bjoins l := by rw [List.take_length]
  have hnil : l.length = 0 → bjoins l = b0 := fun h => by rw [List.eq_nil_of_length_eq_zero h]; rfl
  obtain ⟨R0, hR0⟩ : ∃ R, R = bjoins l := ⟨_, rfl⟩
  rw [← hR0] at hlast hnil ⊢
  obtain ⟨S, hS⟩ : ∃ S : Nat → B3, S = fun i => bjoins (l.take i) := ⟨_, rfl⟩
  have hSe : ∀ i, bjoins (l.take i) = S i := fun i => by rw [hS]
  simp only [hSe] at hq hst hst0 hlast
  clear hSe hS hR0
  refine nx ?_
  refine BrG.split (fun h => ?_) (fun h => ?_)
  · have hl0 : l.length = 0 := by have := h; simp only [wz] at this ⊢; omega
    have := hnil hl0
    subst this
    have g := zero5_good
    have e : Ψ .cB b0 = ⟨Ψ .cV v0, Ψ .cV v0⟩ := rfl
    rw [e]
    generalize Ψ .cV v0 = Z at *
    refine nx ?_
    refine ⟨_, hC _ _ _ g, ?_⟩
    refine nx ?_
    refine ⟨_, hC _ _ _ g, ?_⟩
    exact nx trivial
  · have hl0 : 0 < l.length := by have : l.length ≠ 0 := by have := h; simp only [wz] at this ⊢; omega
                                  omega
    obtain ⟨r, hr⟩ : ∃ r, l[0]? = some r := ⟨_, List.getElem?_eq_getElem hl0⟩
    have hb := hl r (List.mem_of_getElem? hr)
    have g := join2_good r r hb hb hk hk2
    rw [bjoin_self, ← hst0 r hr] at g
    refine nx ?_
    refine (idx_dBs 0 r rfl hr rfl ?_).2
    refine nx ?_
    refine (idx_dBs 0 r rfl hr rfl ?_).2
    refine nx ?_
    refine ⟨_, hC _ _ _ g, ?_⟩
    refine nx ?_
    refine LoopG.intro (σ := Nat) [0, 2, 3, 4] [1050, 1051]
      (fun i => [.d (.sl (Ψ .dBs l)), .ptr 1050 0, .ptr 1051 0, .d (.i .i64 (Ω .ci i))])
      (fun i => [.var [.d (.b false), .nil, .nil, .d (.b false), .nil, .nil, .d (.b false), .nil, .nil, .d (.b false), .nil, .nil, .d (.b false), .nil, .nil, .d (.b false), .nil, .nil], .var ((dB Ψ (Ψ .cB (S i))).map V.d)])
      (fun i => i ≤ l.length ∧ 0 < i)
      (fun i => l.length - i) 1 [1000, 1307] ⟨hl0, by omega⟩ ⟨rfl, rfl, rfl⟩ ?_
    rintro i ⟨hi, hi0⟩
    refine nx ?_
    refine BrG.split (fun h => ?_) (fun h => ?_)
    · have hlen : i < l.length := by have := h; simp only [wz] at this; omega
      obtain ⟨r, hr⟩ : ∃ r, l[i]? = some r := ⟨_, List.getElem?_eq_getElem hlen⟩
      have hb := hl r (List.mem_of_getElem? hr)
      have g := join2_good (Ψ .cB (S i)) r (Bn_cB (hq i)) hb hk hk2
      rw [bv_cB, ← hst i r hr hi0] at g
      refine nx ?_
      refine idx_dBs i r rfl hr rfl ?_
      refine nx ?_
      refine ⟨_, hC _ _ _ g, ?_⟩
      refine nx ?_
      refine ⟨i + 1, [1050, 1051], ⟨hlen, by omega⟩, by omega, rfl, ?_, rfl⟩
      refine Eq.trans (b := [.d (.sl (Ψ .dBs l)), .ptr 1050 0, .ptr 1051 0, .d (.i .i64 _)]) rfl ?_
      rw [wrap_succ (by omega)]
    · have hlen : i = l.length := by have := h; simp only [wz] at this; omega
      rw [← hlen] at hlast
      subst hlast
      exact nx trivial

theorem cells18' (b : BL) : ∀ u, u ∈ [D.agg (dB Ψ b)] → u.cells.length = 18 := fun u h => by
  rw [List.mem_singleton.1 h]; rfl

theorem around10_good (l : List VL) {k : Nat} (hl : ∀ b, b ∈ l → Vn k b) (hln : l.length < 68719476736) (hk : 0 < k) (hk2 : k < 68719476736) :
    Good P F.penumbraref10_Around [.d (.sl (Ψ .dVs l))] [] (.d (.agg (dB Ψ (Ψ .cB (bjoins (l.map pbox)))))) [] := by
  refine G.penumbraref10_Around fun C C2 hC hC2 => ?_
  have gj := join10_good (l.map pbox) (k := k) (fun b hb => by
    obtain ⟨v, hv, rfl⟩ := List.mem_map.1 hb
    exact ⟨hl v hv, hl v hv⟩) (by simp only [List.length_map]; exact hln) hk hk2
  obtain ⟨R, hR⟩ : ∃ R, R = Ψ .cB (bjoins (l.map pbox)) := ⟨_, rfl⟩
  rw [← hR] at gj ⊢
  clear hR
  have hst : ∀ i r, l[i]? = some r → (l.take (i + 1)).map pbox = (l.take i).map pbox ++ [pbox r] := fun i r hr => by rw [take_succ_of hr]; simp
  have hlast : (l.take l.length).map pbox = l.map pbox := by rw [List.take_length]
  have hz : (l.take 0).map pbox = [] := rfl
  have hlen : ∀ i, i ≤ l.length → ((l.take i).map pbox).length = i := fun i hi => by simp; omega
  obtain ⟨S, hS⟩ : ∃ S : Nat → List BL, S = fun i => (l.take i).map pbox := ⟨_, rfl⟩
  have hSe : ∀ i, (l.take i).map pbox = S i := fun i => by rw [hS]
  simp only [hSe] at hst hlast hz hlen
  clear hSe hS
  rw [← hlast] at gj
  refine nx ?_
  refine LoopG.intro (σ := Nat) [0, 2, 3, 4] [1050, 1051]
      (fun i => [.d (.sl (Ψ .dVs l)), .ptr 1050 0, .own 1051 18, .d (.i .i64 (Ω .ci i))])
      (fun i => [.var [.d (.b false), .nil, .nil, .d (.b false), .nil, .nil, .d (.b false), .nil, .nil, .d (.b false), .nil, .nil, .d (.b false), .nil, .nil, .d (.b false), .nil, .nil], .row true T.api_Box 18 (Ψ .dBs (S i))])
      (fun i => i ≤ l.length)
      (fun i => l.length - i) 0 [1000, 1100] (Nat.zero_le _) ⟨rfl, rfl, ?_⟩ ?_
  · rw [hz]
    rfl
  intro i hi
  have hsl := hlen i hi
  refine nx ?_
  refine BrG.split (fun h => ?_) (fun h => ?_)
  · have hlt : i < l.length := by have := h; simp only [wz] at this; omega
    obtain ⟨r, hr⟩ : ∃ r, l[i]? = some r := ⟨_, List.getElem?_eq_getElem hlt⟩
    have e := hst _ r hr
    refine nx ?_
    refine idx_dVs i r rfl hr rfl ?_
    refine nx ?_
    refine idx_dVs i r rfl hr rfl ?_
    refine nx ?_
    refine ⟨cells18' (pbox r), (by simp only [wz, slen_dBs]; omega), i + 1, [1050, 1511], hlt, by omega, rfl, ?_, ?_⟩
    · refine Eq.trans (b := [.d (.sl (Ψ .dVs l)), .ptr 1050 0, .own 1051 18, .d (.i .i64 _)]) rfl ?_
      rw [wrap_succ (by omega)]
    · rw [e, ← scat_dBs]
      rfl
  · have hl0 : i = l.length := by have := h; simp only [wz] at this; omega
    rw [← hl0] at gj
    refine nx ?_
    refine ⟨_, hC _ _ _ gj, ?_⟩
    exact nx trivial
end Go.K.S
end
section
/-
  Contracts of vec: Of, Sub, Scale, Dot, minor, Cross, Sum.
-/
namespace Go.K.S
open Go Go.K
set_option maxHeartbeats 4000000
set_option maxRecDepth 20000
set_option linter.unusedVariables false
set_option linter.unusedSimpArgs false

theorem sum2_good (a b : RL) {k : Nat} (ha : Rn k a) (hb : Rn k b) (hk : 0 < k) (hk2 : k < 17179869184) :
    Good P F.rat_Sum [.d (.sl [.agg (dR Ψ a), .agg (dR Ψ b)])] [] (.d (.agg (dR Ψ (Ψ .cr (rv a + rv b))))) [] := by
  have := sum_good [a, b] (k := k) (fun r h => by rcases mem2 h with rfl | rfl <;> assumption) hk (by simp only [List.length_cons, List.length_nil]; omega)
  rw [rsum2] at this
  exact this
theorem sum3_good (a b c : RL) {k : Nat} (ha : Rn k a) (hb : Rn k b) (hc : Rn k c) (hk : 0 < k) (hk2 : k < 17179869183) :
    Good P F.rat_Sum [.d (.sl [.agg (dR Ψ a), .agg (dR Ψ b), .agg (dR Ψ c)])] [] (.d (.agg (dR Ψ (Ψ .cr (rv a + rv b + rv c))))) [] := by
  have := sum_good [a, b, c] (k := k) (fun r h => by rcases mem3 h with rfl | rfl | rfl <;> assumption) hk (by simp only [List.length_cons, List.length_nil]; omega)
  rw [rsum3] at this
  exact this
theorem prod2_good (a b : RL) {k : Nat} (ha : Rn k a) (hb : Rn k b) (hk : 0 < k) (hk2 : k < 17179869184) :
    Good P F.rat_Product [.d (.sl [.agg (dR Ψ a), .agg (dR Ψ b)])] [] (.d (.agg (dR Ψ (Ψ .cr (rv a * rv b))))) [] := by
  have := product_good [a, b] (k := k) (fun r h => by rcases mem2 h with rfl | rfl <;> assumption) hk (by simp only [List.length_cons, List.length_nil]; omega)
  rw [rprod2] at this
  exact this

theorem vof_good (x y z : Int) (h1 : -9223372036854775808 ≤ x) (h2 : x ≤ 9223372036854775807) (h3 : -9223372036854775808 ≤ y) (h4 : y ≤ 9223372036854775807) (h5 : -9223372036854775808 ≤ z) (h6 : z ≤ 9223372036854775807) :
    Good P F.vec_Of [.d (.i .i64 x), .d (.i .i64 y), .d (.i .i64 z)] [] (.d (.agg (dV Ψ (Ψ .cV ⟨x, y, z⟩)))) [] := by
  refine G.vec_Of fun C C2 hC hC2 => ?_
  have g1 := rof_good x 1 h1 h2 (by omega) (by omega)
  have g2 := rof_good y 1 h3 h4 (by omega) (by omega)
  have g3 := rof_good z 1 h5 h6 (by omega) (by omega)
  have e : ∀ n : Int, (n : Rat) / ((1 : Int) : Rat) = n := fun n => by
    have : ((1 : Int) : Rat) = 1 := rfl
    rw [this]; grind
  rw [e] at g1 g2 g3
  have hV : Ψ .cV ⟨x, y, z⟩ = ⟨Ψ .cr x, Ψ .cr y, Ψ .cr z⟩ := rfl
  rw [hV]
  generalize Ψ .cr (x : Rat) = X at *
  generalize Ψ .cr (y : Rat) = Y at *
  generalize Ψ .cr (z : Rat) = Z at *
  refine nx ?_
  refine ⟨_, hC _ _ _ g1, ?_⟩
  refine nx ?_
  refine ⟨_, hC _ _ _ g2, ?_⟩
  refine nx ?_
  refine ⟨_, hC _ _ _ g3, ?_⟩
  exact nx trivial

theorem vsub_good (a b : VL) {k : Nat} (ha : Vn k a) (hb : Vn k b) (hk : 0 < k) (hk2 : k < 68719476736) :
    Good P F.vec_Sub [.d (.agg (dV Ψ a)), .d (.agg (dV Ψ b))] [] (.d (.agg (dV Ψ (Ψ .cV (vsub (vv a) (vv b)))))) [] := by
  refine G.vec_Sub fun C C2 hC hC2 => ?_
  have g1 := rsub_good a.x b.x ha.x hb.x hk hk hk2 hk2
  have g2 := rsub_good a.y b.y ha.y hb.y hk hk hk2 hk2
  have g3 := rsub_good a.z b.z ha.z hb.z hk hk hk2 hk2
  have hV : Ψ .cV (vsub (vv a) (vv b)) = ⟨Ψ .cr (rv a.x - rv b.x), Ψ .cr (rv a.y - rv b.y), Ψ .cr (rv a.z - rv b.z)⟩ := rfl
  rw [hV]
  generalize Ψ .cr (rv a.x - rv b.x) = X at *
  generalize Ψ .cr (rv a.y - rv b.y) = Y at *
  generalize Ψ .cr (rv a.z - rv b.z) = Z at *
  refine nx ?_
  refine ⟨_, hC _ _ _ g1, ?_⟩
  refine nx ?_
  refine ⟨_, hC _ _ _ g2, ?_⟩
  refine nx ?_
  refine ⟨_, hC _ _ _ g3, ?_⟩
  exact nx trivial

theorem vscale_good (s : RL) (b : VL) {k : Nat} (ha : Rn k s) (hb : Vn k b) (hk : 0 < k) (hk2 : k < 17179869184) :
    Good P F.vec_Scale [.d (.agg (dR Ψ s)), .d (.agg (dV Ψ b))] [] (.d (.agg (dV Ψ (Ψ .cV (vmul (rv s) (vv b)))))) [] := by
  refine G.vec_Scale fun C C2 hC hC2 => ?_
  have g1 := prod2_good s b.x ha hb.x hk hk2
  have g2 := prod2_good s b.y ha hb.y hk hk2
  have g3 := prod2_good s b.z ha hb.z hk hk2
  have hV : Ψ .cV (vmul (rv s) (vv b)) = ⟨Ψ .cr (rv s * rv b.x), Ψ .cr (rv s * rv b.y), Ψ .cr (rv s * rv b.z)⟩ := rfl
  rw [hV]
  generalize Ψ .cr (rv s * rv b.x) = X at *
  generalize Ψ .cr (rv s * rv b.y) = Y at *
  generalize Ψ .cr (rv s * rv b.z) = Z at *
  refine nx ?_
  refine ⟨_, hC _ _ _ g1, ?_⟩
  refine nx ?_
  refine ⟨_, hC _ _ _ g2, ?_⟩
  refine nx ?_
  refine ⟨_, hC _ _ _ g3, ?_⟩
  exact nx trivial

theorem vdot_good (a b : VL) {k : Nat} (ha : Vn k a) (hb : Vn k b) (hk : 0 < k) (hk2 : k < 8589934590) :
    Good P F.vec_Dot [.d (.agg (dV Ψ a)), .d (.agg (dV Ψ b))] [] (.d (.agg (dR Ψ (Ψ .cr (vdot (vv a) (vv b)))))) [] := by
  refine G.vec_Dot fun C C2 hC hC2 => ?_
  have g1 := prod2_good a.x b.x ha.x hb.x hk (by omega)
  have g2 := prod2_good a.y b.y ha.y hb.y hk (by omega)
  have g3 := prod2_good a.z b.z ha.z hb.z hk (by omega)
  have q1 := Rn_cr.2 (Qn_mul (Qn_rv ha.x hk) (Qn_rv hb.x hk) (by omega))
  have q2 := Rn_cr.2 (Qn_mul (Qn_rv ha.y hk) (Qn_rv hb.y hk) (by omega))
  have q3 := Rn_cr.2 (Qn_mul (Qn_rv ha.z hk) (Qn_rv hb.z hk) (by omega))
  have g4 := sum3_good _ _ _ q1 q2 q3 (by omega) (by omega)
  rw [rv_cr, rv_cr, rv_cr] at g4
  have hV : vdot (vv a) (vv b) = rv a.x * rv b.x + rv a.y * rv b.y + rv a.z * rv b.z := rfl
  rw [hV]
  generalize Ψ .cr (rv a.x * rv b.x + rv a.y * rv b.y + rv a.z * rv b.z) = W at *
  generalize Ψ .cr (rv a.x * rv b.x) = X at *
  generalize Ψ .cr (rv a.y * rv b.y) = Y at *
  generalize Ψ .cr (rv a.z * rv b.z) = Z at *
  refine nx ?_
  refine ⟨_, hC _ _ _ g1, ?_⟩
  refine nx ?_
  refine ⟨_, hC _ _ _ g2, ?_⟩
  refine nx ?_
  refine ⟨_, hC _ _ _ g3, ?_⟩
  refine nx ?_
  refine ⟨_, hC _ _ _ g4, ?_⟩
  exact nx trivial

theorem minor_good (a b c d : RL) {k : Nat} (ha : Rn k a) (hb : Rn k b) (hc : Rn k c) (hd : Rn k d) (hk : 0 < k) (hk2 : k < 17179869184) :
    Good P F.vec_minor [.d (.agg (dR Ψ a)), .d (.agg (dR Ψ b)), .d (.agg (dR Ψ c)), .d (.agg (dR Ψ d))] [] (.d (.agg (dR Ψ (Ψ .cr (rv a * rv d - rv b * rv c))))) [] := by
  refine G.vec_minor fun C C2 hC hC2 => ?_
  have g1 := prod2_good a d ha hd hk hk2
  have g2 := prod2_good b c hb hc hk hk2
  have q1 := Rn_cr.2 (Qn_mul (Qn_rv ha hk) (Qn_rv hd hk) (by omega))
  have q2 := Rn_cr.2 (Qn_mul (Qn_rv hb hk) (Qn_rv hc hk) (by omega))
  have g4 := rsub_good _ _ q1 q2 (by omega) (by omega) (by omega) (by omega)
  rw [rv_cr, rv_cr] at g4
  generalize Ψ .cr (rv a * rv d - rv b * rv c) = W at *
  generalize Ψ .cr (rv a * rv d) = X at *
  generalize Ψ .cr (rv b * rv c) = Y at *
  refine nx ?_
  refine ⟨_, hC _ _ _ g1, ?_⟩
  refine nx ?_
  refine ⟨_, hC _ _ _ g2, ?_⟩
  refine nx ?_
  refine ⟨_, hC _ _ _ g4, ?_⟩
  exact nx trivial

theorem vcross_good (a b : VL) {k : Nat} (ha : Vn k a) (hb : Vn k b) (hk : 0 < k) (hk2 : k < 17179869184) :
    Good P F.vec_Cross [.d (.agg (dV Ψ a)), .d (.agg (dV Ψ b))] [] (.d (.agg (dV Ψ (Ψ .cV (vcross (vv a) (vv b)))))) [] := by
  refine G.vec_Cross fun C C2 hC hC2 => ?_
  have g1 := minor_good a.y a.z b.y b.z ha.y ha.z hb.y hb.z hk hk2
  have g2 := minor_good a.z a.x b.z b.x ha.z ha.x hb.z hb.x hk hk2
  have g3 := minor_good a.x a.y b.x b.y ha.x ha.y hb.x hb.y hk hk2
  have hV : Ψ .cV (vcross (vv a) (vv b)) = ⟨Ψ .cr (rv a.y * rv b.z - rv a.z * rv b.y), Ψ .cr (rv a.z * rv b.x - rv a.x * rv b.z), Ψ .cr (rv a.x * rv b.y - rv a.y * rv b.x)⟩ := rfl
  rw [hV]
  generalize Ψ .cr (rv a.y * rv b.z - rv a.z * rv b.y) = X at *
  generalize Ψ .cr (rv a.z * rv b.x - rv a.x * rv b.z) = Y at *
  generalize Ψ .cr (rv a.x * rv b.y - rv a.y * rv b.x) = Z at *
  refine nx ?_
  refine ⟨_, hC _ _ _ g1, ?_⟩
  refine nx ?_
  refine ⟨_, hC _ _ _ g2, ?_⟩
  refine nx ?_
  refine ⟨_, hC _ _ _ g3, ?_⟩
  exact nx trivial
end Go.K.S
end
section
/-
  Contract: the fixed calls of the laws on boxes.
-/
namespace Go.K
open Go
theorem Qn_int {n : Int} (h : n.natAbs < 4294967296) : Qn 1 (n : Rat) := ⟨by simpa using h, by simp⟩
end Go.K
namespace Go.K.S
open Go Go.K
set_option maxHeartbeats 8000000
set_option maxRecDepth 20000
set_option linter.unusedVariables false
set_option linter.unusedSimpArgs false

def cube3 : B3 := ⟨⟨((0 : Int) : Rat), ((0 : Int) : Rat), ((0 : Int) : Rat)⟩, ⟨((1 : Int) : Rat), ((1 : Int) : Rat), ((1 : Int) : Rat)⟩⟩
def half : Rat := ((1 : Int) : Rat) / ((2 : Int) : Rat)
def o1 : V3 := ⟨((-1 : Int) : Rat) / ((1 : Int) : Rat), half, half⟩
def o2 : V3 := ⟨half, half, half⟩
def v200 : V3 := ⟨((2 : Int) : Rat), ((0 : Int) : Rat), ((0 : Int) : Rat)⟩
def v100 : V3 := ⟨((1 : Int) : Rat), ((0 : Int) : Rat), ((0 : Int) : Rat)⟩
def v000 : V3 := ⟨((0 : Int) : Rat), ((0 : Int) : Rat), ((0 : Int) : Rat)⟩
def v101 : V3 := ⟨((1 : Int) : Rat), ((0 : Int) : Rat), ((1 : Int) : Rat)⟩
theorem c1 : clipS o1 v200 cube3 = ⟨half, 1, false⟩ := by decide +kernel
theorem c2 : clipOk o1 v200 cube3 = true := by decide +kernel
theorem c3 : (clipS o2 v000 cube3).op = true := by decide +kernel
theorem c4 : clipOk o2 v000 cube3 = true := by decide +kernel
theorem c5 : clipOk v200 v100 cube3 = false := by decide +kernel
theorem c6 : holds cube3 v101 := by decide +kernel

theorem cube_good : Good P F.penumbralaw10_cube [] [] (.d (.agg (dB Ψ (Ψ .cB cube3)))) [] := by
  refine G.penumbralaw10_cube fun C C2 hC hC2 => ?_
  have g1 := vof_good 0 0 0 (by omega) (by omega) (by omega) (by omega) (by omega) (by omega)
  have g2 := vof_good 1 1 1 (by omega) (by omega) (by omega) (by omega) (by omega) (by omega)
  have e : Ψ .cB cube3 = ⟨Ψ .cV ⟨((0 : Int) : Rat), ((0 : Int) : Rat), ((0 : Int) : Rat)⟩, Ψ .cV ⟨((1 : Int) : Rat), ((1 : Int) : Rat), ((1 : Int) : Rat)⟩⟩ := rfl
  rw [e]
  generalize Ψ .cV ⟨((0 : Int) : Rat), ((0 : Int) : Rat), ((0 : Int) : Rat)⟩ = X at *
  generalize Ψ .cV ⟨((1 : Int) : Rat), ((1 : Int) : Rat), ((1 : Int) : Rat)⟩ = Y at *
  refine nx ?_
  refine ⟨_, hC _ _ _ g1, ?_⟩
  refine nx ?_
  refine ⟨_, hC _ _ _ g2, ?_⟩
  exact nx trivial

theorem fixed10_good : Good P F.penumbralaw10_fixed [] [] (.d (.b true)) [] := by
  refine G.penumbralaw10_fixed fun C C2 hC hC2 => ?_
  have hh := rof_good 1 2 (by omega) (by omega) (by omega) (by omega)
  have hm := rof_good (-1) 1 (by omega) (by omega) (by omega) (by omega)
  have g200 := vof_good 2 0 0 (by omega) (by omega) (by omega) (by omega) (by omega) (by omega)
  have g000 := vof_good 0 0 0 (by omega) (by omega) (by omega) (by omega) (by omega) (by omega)
  have g100 := vof_good 1 0 0 (by omega) (by omega) (by omega) (by omega) (by omega) (by omega)
  have g101 := vof_good 1 0 1 (by omega) (by omega) (by omega) (by omega) (by omega) (by omega)
  have gc := cube_good
  have gh3 := of3_good 1 2 (by omega) (by omega) (by omega) (by omega)
  have go3 := one3_good
  have qh : Qn 2 half := Qn_of (by decide) (by decide)
  have qm : Qn 2 (((-1 : Int) : Rat) / ((1 : Int) : Rat)) := Qn_of (by decide) (by decide)
  have q0 : Qn 2 ((0 : Int) : Rat) := (Qn_int (by decide)).mono (by omega)
  have q1 : Qn 2 ((1 : Int) : Rat) := (Qn_int (by decide)).mono (by omega)
  have q2 : Qn 2 ((2 : Int) : Rat) := (Qn_int (by decide)).mono (by omega)
  have b3 : Bn 2 (Ψ .cB cube3) := Bn_cB ⟨⟨q0, q0, q0⟩, ⟨q1, q1, q1⟩⟩
  have k1 := clip_good (Ψ .cV o1) (Ψ .cV v200) (Ψ .cB cube3) (k := 2) (Vn_cV ⟨qm, qh, qh⟩) (Vn_cV ⟨q2, q0, q0⟩) b3 (by omega) (by omega)
  have k2 := clip_good (Ψ .cV o2) (Ψ .cV v000) (Ψ .cB cube3) (k := 2) (Vn_cV ⟨qh, qh, qh⟩) (Vn_cV ⟨q0, q0, q0⟩) b3 (by omega) (by omega)
  have k3 := clip_good (Ψ .cV v200) (Ψ .cV v100) (Ψ .cB cube3) (k := 2) (Vn_cV ⟨q2, q0, q0⟩) (Vn_cV ⟨q1, q0, q0⟩) b3 (by omega) (by omega)
  have k4 := holds_good (Ψ .cB cube3) (Ψ .cV v101) (k := 2) b3 (Vn_cV ⟨q1, q0, q1⟩) (by omega)
  simp only [vv_cV, bv_cB] at k1 k2 k3 k4
  rw [c1, c2] at k1
  rw [c4] at k2
  rw [c5] at k3
  rw [decide_eq_true c6] at k4
  have i1 := is3_good (Ψ .cr half) (Ψ .cr half) (Rn_cr.2 qh) (Rn_cr.2 qh) (by omega) (by omega)
  have i2 := is3_good (Ψ .cr 1) (Ψ .cr 1) (Rn_cr.2 (Qn_one (k := 1) (by omega))) (Rn_cr.2 (Qn_one (k := 1) (by omega))) (by omega) (by omega)
  rw [decide_eq_true rfl] at i1 i2
  have a1 := around_good [] (k := 1) (fun _ h => by cases h) (by simp) (by omega) (by omega)
  have a2 := around10_good [] (k := 1) (fun _ h => by cases h) (by simp) (by omega) (by omega)
  have bz : Bn 1 (Ψ .cB (bjoins (([] : List VL).map pbox))) := Bn_cB (Bq_b0 (by omega))
  have a3 := is10_good _ _ bz bz (by omega) (by omega)
  rw [decide_eq_true rfl] at a3
  have e1 : cS Ψ ⟨half, 1, false⟩ = ⟨Ψ .cr half, Ψ .cr 1, false⟩ := rfl
  rw [e1] at k1
  have e2 : ((1 : Int) : Rat) / ((2 : Int) : Rat) = half := rfl
  rw [e2] at hh gh3
  have hop := c3
  have f1 : Ψ .cV o1 = ⟨Ψ .cr (((-1 : Int) : Rat) / ((1 : Int) : Rat)), Ψ .cr half, Ψ .cr half⟩ := rfl
  have f2 : Ψ .cV o2 = ⟨Ψ .cr half, Ψ .cr half, Ψ .cr half⟩ := rfl
  have f3 : Ψ .cV v200 = Ψ .cV ⟨((2 : Int) : Rat), ((0 : Int) : Rat), ((0 : Int) : Rat)⟩ := rfl
  have f4 : Ψ .cV v000 = Ψ .cV ⟨((0 : Int) : Rat), ((0 : Int) : Rat), ((0 : Int) : Rat)⟩ := rfl
  have f5 : Ψ .cV v100 = Ψ .cV ⟨((1 : Int) : Rat), ((0 : Int) : Rat), ((0 : Int) : Rat)⟩ := rfl
  have f6 : Ψ .cV v101 = Ψ .cV ⟨((1 : Int) : Rat), ((0 : Int) : Rat), ((1 : Int) : Rat)⟩ := rfl
  rw [f1] at k1
  rw [f2] at k2
  rw [← f3] at g200
  rw [← f4] at g000
  rw [← f5] at g100
  rw [← f6] at g101
  have s2 : cS Ψ (clipS o2 v000 cube3) = ⟨Ψ .cr (clipS o2 v000 cube3).from', Ψ .cr (clipS o2 v000 cube3).to', true⟩ := by rw [← hop]; rfl
  rw [s2] at k2
  have s3 : cS Ψ (clipS v200 v100 cube3) = ⟨Ψ .cr (clipS v200 v100 cube3).from', Ψ .cr (clipS v200 v100 cube3).to', (clipS v200 v100 cube3).op⟩ := rfl
  rw [s3] at k3
  generalize Ψ .cr (clipS o2 v000 cube3).from' = x1 at *
  generalize Ψ .cr (clipS o2 v000 cube3).to' = x2 at *
  generalize Ψ .cr (clipS v200 v100 cube3).from' = x3 at *
  generalize Ψ .cr (clipS v200 v100 cube3).to' = x4 at *
  generalize (clipS v200 v100 cube3).op = x5 at *
  clear s2 s3 f1 f2 f3 f4 f5 f6 e1 e2 hop qh qm q0 q1 q2 b3 bz
  generalize Ψ .cr half = H at *
  generalize Ψ .cr (((-1 : Int) : Rat) / ((1 : Int) : Rat)) = M at *
  generalize Ψ .cV v200 = w1 at *
  generalize Ψ .cV v000 = w2 at *
  generalize Ψ .cV v100 = w3 at *
  generalize Ψ .cV v101 = w4 at *
  generalize Ψ .cB cube3 = Q at *
  generalize Ψ .cB (bjoins (([] : List VL).map pbox)) = Z at *
  generalize Ψ .cr 1 = O at *
  refine nx ?_
  refine ⟨_, hC _ _ _ hh, ?_⟩
  refine nx ?_
  refine ⟨_, hC _ _ _ hm, ?_⟩
  refine nx ?_
  refine ⟨_, hC _ _ _ g200, ?_⟩
  refine nx ?_
  refine ⟨_, hC _ _ _ gc, ?_⟩
  refine nx ?_
  refine ⟨_, hC _ _ _ k1, ?_⟩
  refine nx ?_
  refine ⟨_, hC _ _ _ g000, ?_⟩
  refine nx ?_
  refine ⟨_, hC _ _ _ gc, ?_⟩
  refine nx ?_
  refine ⟨_, hC _ _ _ k2, ?_⟩
  refine nx ?_
  refine ⟨_, hC _ _ _ g200, ?_⟩
  refine nx ?_
  refine ⟨_, hC _ _ _ g100, ?_⟩
  refine nx ?_
  refine ⟨_, hC _ _ _ gc, ?_⟩
  refine nx ?_
  refine ⟨_, hC _ _ _ k3, ?_⟩
  refine nx ?_
  refine ⟨_, hC _ _ _ gh3, ?_⟩
  refine nx ?_
  refine ⟨_, hC _ _ _ i1, ?_⟩
  refine nx ?_
  refine ⟨_, hC _ _ _ go3, ?_⟩
  refine nx ?_
  refine ⟨_, hC _ _ _ i2, ?_⟩
  refine nx ?_
  refine ⟨_, hC _ _ _ gc, ?_⟩
  refine nx ?_
  refine ⟨_, hC _ _ _ g101, ?_⟩
  refine nx ?_
  refine ⟨_, hC _ _ _ k4, ?_⟩
  refine nx ?_
  refine ⟨_, hC _ _ _ a1, ?_⟩
  refine nx ?_
  refine ⟨_, hC _ _ _ a2, ?_⟩
  refine nx ?_
  refine ⟨_, hC _ _ _ a3, ?_⟩
  exact nx trivial
end Go.K.S
end
section
/-
  The law BoxesLay, as a contract.
-/
namespace Go.K.S
open Go Go.K
set_option maxHeartbeats 8000000
set_option maxRecDepth 20000
set_option linter.unusedVariables false
set_option linter.unusedSimpArgs false

theorem boxesLay_good (l : List VL) (b : List BL) {k : Nat} (hl : ∀ v, v ∈ l → Vn k v) (hln : l.length < 68719476736) (hb : ∀ v, v ∈ b → Bn k v) (hbn : b.length < 68719476736) (hk : 0 < k) (hk2 : k < 68719476736) :
    Good P F.penumbralaw10_BoxesLay [.d (.sl (Ψ .dVs l)), .d (.sl (Ψ .dBs b))] [] (.d (.b true)) [] := by
  refine G.penumbralaw10_BoxesLay fun C C2 hC hC2 => ?_
  have gf := fixed10_good
  have g1 := around_good l hl hln hk hk2
  have g2 := around10_good l hl hln hk hk2
  have n1 : Bn k (Ψ .cB (bjoins (l.map pbox))) := Bn_cB (Bq_joins hk _ (fun b hb => by
    obtain ⟨v, hv, rfl⟩ := List.mem_map.1 hb
    exact ⟨hl v hv, hl v hv⟩))
  have g3 := is10_good _ _ n1 n1 (by omega) (by omega)
  rw [decide_eq_true rfl] at g3
  have g4 := join_good b hb hbn hk hk2
  have g5 := join10_good b hb hbn hk hk2
  have n2 : Bn k (Ψ .cB (bjoins b)) := Bn_cB (Bq_joins hk _ hb)
  have g6 := is10_good _ _ n2 n2 (by omega) (by omega)
  rw [decide_eq_true rfl] at g6
  clear n1 n2
  generalize Ψ .cB (bjoins (l.map pbox)) = X at *
  generalize Ψ .cB (bjoins b) = Y at *
  refine nx ?_
  refine ⟨_, hC _ _ _ gf, ?_⟩
  refine nx ?_
  refine ⟨_, hC _ _ _ g1, ?_⟩
  refine nx ?_
  refine ⟨_, hC _ _ _ g2, ?_⟩
  refine nx ?_
  refine ⟨_, hC _ _ _ g3, ?_⟩
  refine nx ?_
  refine ⟨_, hC _ _ _ g4, ?_⟩
  refine nx ?_
  refine ⟨_, hC _ _ _ g5, ?_⟩
  refine nx ?_
  refine ⟨_, hC _ _ _ g6, ?_⟩
  exact nx trivial
end Go.K.S
end
