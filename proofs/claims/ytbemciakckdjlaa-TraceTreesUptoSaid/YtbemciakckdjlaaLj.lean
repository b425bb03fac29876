/-
  Parts of the proof, joined by a program of this work: KTri, KLawBoxesWithin, KLawBoxesHold, KHit, KLawBoxesMeet, KOpens2.
-/
import Derived.Test.YtbemciakckdjlaaLg
import Derived.Test.YtbemciakckdjlaaLi
import Derived.Test.YtbemciakckdjlaaLh
section
/-
  Contracts: vec.Sum, tri.At.
-/
namespace Go.K.S
open Go Go.K
set_option maxHeartbeats 4000000
set_option maxRecDepth 20000
set_option linter.unusedVariables false
set_option linter.unusedSimpArgs false

theorem vsum_good (l : List VL) {k : Nat} (hl : ∀ r, r ∈ l → Vn k r) (hk : 0 < k) (hs : (l.length + 1) * (k + 1) < 17179869184) :
    Good P F.vec_Sum [.d (.sl (Ψ .dVs l))] [] (.d (.agg (dV Ψ (Ψ .cV (vsum l))))) [] := by
  refine G.vec_Sum fun C C2 hC hC2 => ?_
  have hln : l.length < 17179869184 := by
    have := Nat.le_mul_of_pos_right (l.length + 1) (show 0 < k + 1 by omega)
    omega
  have hq : ∀ i, i ≤ l.length → Pn (i * (k + 1) + 1) (vsum (l.take i)) := fun i => by
    induction i with
    | zero => intro _; exact Pn_v0 (by omega)
    | succ i ih =>
      intro hi
      obtain ⟨r, hr⟩ : ∃ r, l[i]? = some r := ⟨_, List.getElem?_eq_getElem (by omega)⟩
      rw [take_succ_of hr, vsum_snoc]
      refine (Pn_add (ih (by omega)) (Pn_vv (hl r (List.mem_of_getElem? hr)) hk)).mono ?_
      rw [Nat.add_mul]; omega
  have hbd : ∀ i, i ≤ l.length → i * (k + 1) + 1 + k < 17179869184 := fun i hi => by
    have := Nat.mul_le_mul_right (k + 1) hi
    rw [Nat.add_mul] at hs
    omega
  have hst : ∀ i r, l[i]? = some r → vsum (l.take (i + 1)) = vadd (vsum (l.take i)) (vv r) := fun i r hr => by rw [take_succ_of hr, vsum_snoc]
  have hlast : vsum (l.take l.length) = vsum l := by rw [List.take_length]
  have hz : vsum (l.take 0) = v0 := rfl
  obtain ⟨R0, hR0⟩ : ∃ R, R = vsum l := ⟨_, rfl⟩
  rw [← hR0] at hlast ⊢
  obtain ⟨S, hS⟩ : ∃ S : Nat → V3, S = fun i => vsum (l.take i) := ⟨_, rfl⟩
  have hSe : ∀ i, vsum (l.take i) = S i := fun i => by rw [hS]
  simp only [hSe] at hq hst hlast hz
  clear hSe hS
  have g0 := vof_good 0 0 0 (by omega) (by omega) (by omega) (by omega) (by omega) (by omega)
  have e0 : (⟨((0 : Int) : Rat), ((0 : Int) : Rat), ((0 : Int) : Rat)⟩ : V3) = S 0 := by rw [hz]; rfl
  rw [e0] at g0
  refine nx ?_
  refine ⟨_, hC _ _ _ g0, ?_⟩
  refine nx ?_
  refine LoopG.intro (σ := Nat) [2, 3, 7, 8, 9] [1050, 1051]
      (fun i => [.ptr 1050 0, .ptr 1051 0, .d (.sl (Ψ .dVs l)), .d (.i .i64 (Ω .ci l.length)), .d (.i .i64 (Ω .ci i))])
      (fun i => [.var [.d (.b false), .nil, .nil, .d (.b false), .nil, .nil, .d (.b false), .nil, .nil], .var ((dV Ψ (Ψ .cV (S i))).map V.d)])
      (fun i => i ≤ l.length)
      (fun i => l.length - i) 0 [1000, 1101] (Nat.zero_le _) ⟨rfl, rfl, rfl⟩ ?_
  intro i hi
  have q := hq i hi
  have hb := hbd i hi
  refine nx ?_
  refine BrG.split (fun h => ?_) (fun h => ?_)
  · have hlen : i < l.length := by have := h; simp only [wz] at this; omega
    obtain ⟨r, hr⟩ : ∃ r, l[i]? = some r := ⟨_, List.getElem?_eq_getElem hlen⟩
    have hrn := hl r (List.mem_of_getElem? hr)
    have hsi := hst i r hr
    have qn := Vn_cV (q.mono (show _ ≤ i * (k + 1) + 1 + k by omega))
    have rn := hrn.mono (show k ≤ i * (k + 1) + 1 + k by omega)
    have g1 := sum2_good (Ψ .cV (S i)).x r.x qn.x rn.x (by omega) hb
    have g2 := sum2_good (Ψ .cV (S i)).y r.y qn.y rn.y (by omega) hb
    have g3 := sum2_good (Ψ .cV (S i)).z r.z qn.z rn.z (by omega) hb
    have e1 : rv (Ψ .cV (S i)).x + rv r.x = (S (i + 1)).x := by rw [hsi]; show rv (Ψ .cr _) + _ = _; rw [rv_cr]; rfl
    have e2 : rv (Ψ .cV (S i)).y + rv r.y = (S (i + 1)).y := by rw [hsi]; show rv (Ψ .cr _) + _ = _; rw [rv_cr]; rfl
    have e3 : rv (Ψ .cV (S i)).z + rv r.z = (S (i + 1)).z := by rw [hsi]; show rv (Ψ .cr _) + _ = _; rw [rv_cr]; rfl
    rw [e1] at g1
    rw [e2] at g2
    rw [e3] at g3
    refine nx ?_
    refine idx_dVs i r rfl hr rfl ?_
    refine nx ?_
    refine ⟨_, hC _ _ _ g1, ?_⟩
    refine nx ?_
    refine ⟨_, hC _ _ _ g2, ?_⟩
    refine nx ?_
    refine ⟨_, hC _ _ _ g3, ?_⟩
    refine nx ?_
    refine ⟨i + 1, [1050, 1051], hlen, by omega, rfl, ?_, rfl⟩
    refine Eq.trans (b := [.ptr 1050 0, .ptr 1051 0, .d (.sl (Ψ .dVs l)), .d (.i .i64 (Ω .ci l.length)), .d (.i .i64 _)]) rfl ?_
    rw [wrap_succ (by omega)]
  · have hlen : i = l.length := by have := h; simp only [wz] at this; omega
    rw [← hlen] at hlast
    subst hlast
    exact nx trivial

theorem vsum2_good (a b : VL) {k : Nat} (ha : Vn k a) (hb : Vn k b) (hk : 0 < k) (hk2 : k < 4294967296) :
    Good P F.vec_Sum [.d (.sl [.agg (dV Ψ a), .agg (dV Ψ b)])] [] (.d (.agg (dV Ψ (Ψ .cV (vadd (vv a) (vv b)))))) [] := by
  have := vsum_good [a, b] (k := k) (fun r h => by rcases mem2 h with rfl | rfl <;> assumption) hk (by simp only [List.length_cons, List.length_nil]; omega)
  rw [vsum2] at this
  exact this

theorem at_good (o d : VL) (s : RL) {k : Nat} (ho : Vn k o) (hd : Vn k d) (hs : Rn k s) (hk : 0 < k) (hk2 : k < 2147483648) :
    Good P F.tri_At [.d (.agg (dV Ψ o)), .d (.agg (dV Ψ d)), .d (.agg (dR Ψ s))] [] (.d (.agg (dV Ψ (Ψ .cV (vadd (vv o) (vmul (rv s) (vv d))))))) [] := by
  refine G.tri_At fun C C2 hC hC2 => ?_
  have g1 := vscale_good s d hs hd hk (by omega)
  have q1 := Vn_cV (Pn_mul (Qn_rv hs hk) (Pn_vv hd hk) (by omega))
  have g2 := vsum2_good o (Ψ .cV (vmul (rv s) (vv d))) (ho.mono (show k ≤ k + k by omega)) q1 (by omega) (by omega)
  rw [vv_cV] at g2
  generalize Ψ .cV (vadd (vv o) (vmul (rv s) (vv d))) = W at *
  generalize Ψ .cV (vmul (rv s) (vv d)) = X at *
  refine nx ?_
  refine ⟨_, hC _ _ _ g1, ?_⟩
  refine nx ?_
  refine ⟨_, hC _ _ _ g2, ?_⟩
  exact nx trivial
end Go.K.S
end
section
/-
  The law BoxesWithin, as a contract.
-/
namespace Go.K
open Go Go.K.S
theorem within_law {o d : V3} {b : B3} {s : Rat} (hs : 0 ≤ s) : decide (holds b (vat o d s)) = (clipOk o d b && (decide ((clipS o d b).from' ≤ s) && ((clipS o d b).op || decide (s ≤ (clipS o d b).to')))) := by
  have hi := clipI (o := o) (d := d) (b := b) 3
  have hsome : ∀ r, clipP o d b = some r → clipS o d b = r ∧ clipOk o d b = true := fun r h => by unfold clipS clipOk; rw [h]; exact ⟨rfl, rfl⟩
  have hnone : clipP o d b = none → clipOk o d b = false := fun h => by unfold clipOk; rw [h]; rfl
  cases hN : clipN o d b 3 with
  | none =>
    rw [hN] at hi
    rw [hnone (by unfold clipP; rw [hN]; rfl), Bool.false_and]
    exact decide_eq_false fun h => hi s (holds_inN.1 h)
  | some r =>
    rw [hN] at hi
    simp only at hi
    have hm := hi.mem s hs
    by_cases c : r.op = false ∧ r.to' < r.from'
    · rw [hnone (by unfold clipP; rw [hN]; simp only [Option.bind_some, if_pos c]), Bool.false_and]
      refine decide_eq_false fun h => ?_
      have := hm.1 (holds_inN.1 h)
      rw [c.1] at this
      rcases this with ⟨h1, h2 | h2⟩
      · cases h2
      · have := c.2; grind
    · obtain ⟨h1, h2⟩ := hsome r (by unfold clipP; rw [hN]; simp only [Option.bind_some, if_neg c])
      rw [h1, h2, Bool.true_and]
      have : (decide (r.from' ≤ s) && (r.op || decide (s ≤ r.to'))) = decide (r.from' ≤ s ∧ (r.op = true ∨ s ≤ r.to')) := by
        rw [Bool.decide_and, Bool.decide_or]; simp
      rw [this]
      exact decide_eq_decide.2 (holds_inN.trans hm)
end Go.K
namespace Go.K.S
open Go Go.K
set_option maxHeartbeats 8000000
set_option maxRecDepth 20000
set_option linter.unusedVariables false
set_option linter.unusedSimpArgs false

theorem Sn_clipS {o d : VL} {b : BL} {k : Nat} (ho : Vn k o) (hd : Vn k d) (hb : Bn k b) (hk : 0 < k) : Sn (3 * k + 1) (clipS (vv o) (vv d) (bv b)) := by
  rw [← (clip_law (vv o) (vv d) (bv b)).1]; exact Sn_spanR ho hd hb hk

theorem boxesWithin_good (r : VL × VL) (b : BL) (s : RL) (hr : Vn 1048576 r.1 ∧ Vn 1048576 r.2) (hb : Bn 1048576 b) (hs : Rn 1048576 s) :
    Good P F.penumbralaw10_BoxesWithin [.d (.agg (dV Ψ r.1 ++ dV Ψ r.2)), .d (.agg (dB Ψ b)), .d (.agg (dR Ψ s))] [] (.d (.b true)) [] := by
  refine G.penumbralaw10_BoxesWithin fun C C2 hC hC2 => ?_
  obtain ⟨o, d⟩ := r
  obtain ⟨ho, hd⟩ := hr
  simp only at ho hd ⊢
  have gf := fixed10_good
  have g1 := clip_good o d b ho hd hb (by omega) (by omega)
  have gs := sign_good s hs (by omega)
  by_cases hneg : rv s < 0
  · have hq := lt_true.2 (sI_neg.2 hneg)
    generalize clipS (vv o) (vv d) (bv b) = S at *
    generalize clipOk (vv o) (vv d) (bv b) = ok at *
    generalize Ψ .sI (rv s) = i at *
    exact rn trivial
  have hq := lt_false.2 (Int.not_lt.1 (mt sI_neg.1 hneg))
  have law := within_law (o := vv o) (d := vv d) (b := bv b) (s := rv s) (by grind)
  have sn := Sn_clipS ho hd hb (by omega)
  have ga := at_good o d s ho hd hs (by omega) (by omega)
  have pa : Pn (3 * 1048576 + 1) (vat (vv o) (vv d) (rv s)) := (Pn_add (Pn_vv ho (by omega)) (Pn_mul (Qn_rv hs (by omega)) (Pn_vv hd (by omega)) (by omega))).mono (by omega)
  have gh := holds_good b (Ψ .cV (vat (vv o) (vv d) (rv s))) (k := 3 * 1048576 + 1) (hb.mono (by omega)) (Vn_cV pa) (by omega)
  rw [vv_cV, law] at gh
  have c1 := rcmp_good s _ hs (Rn_cr.2 sn.f) (by omega) (by omega)
  have c2 := rcmp_good s _ hs (Rn_cr.2 sn.t) (by omega) (by omega)
  rw [rv_cr] at c1 c2
  clear sn law pa
  generalize clipS (vv o) (vv d) (bv b) = S at *
  generalize clipOk (vv o) (vv d) (bv b) = ok at *
  have z1 := @cI_nonneg (rv s) S.from'
  have z2 := @cI_nonpos (rv s) S.to'
  generalize Ψ .sI (rv s) = i at *
  generalize Ψ .cI (rv s) S.from' = i1 at *
  generalize Ψ .cI (rv s) S.to' = i2 at *
  obtain ⟨f, t, op⟩ := S
  simp only at *
  change Good P _ _ _ (V.d (.agg (dV Ψ (Ψ .cV (vat (vv o) (vv d) (rv s)))))) _ at ga
  generalize Ψ .cV (vat (vv o) (vv d) (rv s)) = W at *
  by_cases h1 : f ≤ rv s <;> by_cases h2 : rv s ≤ t
  all_goals
    first | rw [decide_eq_true h1] at gh | rw [decide_eq_false h1] at gh
    first | rw [decide_eq_true h2] at gh | rw [decide_eq_false h2] at gh
    first | have z1' := le_true.2 (z1.2 h1) | have z1' := le_false.2 (Int.not_le.1 (mt z1.1 h1))
    first | have z2' := le_true.2 (z2.2 h2) | have z2' := le_false.2 (Int.not_le.1 (mt z2.1 h2))
    cases ok <;> cases op
    all_goals exact rn trivial
end Go.K.S
end
section
/-
  The law BoxesHold, as a contract.
-/
namespace Go.K
open Go Go.K.S
theorem rmin_le_left (a b : Rat) : rmin a b ≤ a := by unfold rmin; split <;> grind
theorem rmin_le_right (a b : Rat) : rmin a b ≤ b := by unfold rmin; split <;> grind
theorem le_rmax_right (a b : Rat) : b ≤ rmax a b := by unfold rmax; split <;> grind
theorem btw_widen {x lo hi lo' hi' : Rat} (h : btw x lo hi) : btw x (rmin lo lo') (rmax hi hi') := by
  unfold btw at *
  have := rmin_le_left lo lo'
  have := le_rmax_left hi hi'
  constructor <;> grind
theorem btw_new (x lo hi : Rat) : btw x (rmin lo x) (rmax hi x) := ⟨rmin_le_right _ _, le_rmax_right _ _⟩
theorem holds_join {b c : B3} {p : V3} (h : holds b p) : holds (bjoin b c) p := ⟨btw_widen h.1, btw_widen h.2.1, btw_widen h.2.2⟩
theorem holds_new (b : B3) (v : VL) : holds (bjoin b (bv (pbox v))) (vv v) := ⟨btw_new _ _ _, btw_new _ _ _, btw_new _ _ _⟩
theorem holds_self (v : VL) : holds (bv (pbox v)) (vv v) := ⟨⟨Rat.le_refl, Rat.le_refl⟩, ⟨Rat.le_refl, Rat.le_refl⟩, ⟨Rat.le_refl, Rat.le_refl⟩⟩
theorem around_snoc (l : List VL) (v : VL) : bjoins ((l ++ [v]).map pbox) = if l = [] then bv (pbox v) else bjoin (bjoins (l.map pbox)) (bv (pbox v)) := by
  by_cases h : l = []
  · subst h; rfl
  · rw [if_neg h, List.map_append, List.map_cons, List.map_nil, bjoins_snoc _ _ (by simpa using h)]
theorem around_says (l : List VL) (hl : l ≠ []) : (∀ v, v ∈ l → holds (bjoins (l.map pbox)) (vv v)) ∧ (∃ v, v ∈ l ∧ rv v.x = (bjoins (l.map pbox)).lo.x) ∧ ∃ v, v ∈ l ∧ rv v.z = (bjoins (l.map pbox)).hi.z := by
  obtain ⟨n, hn⟩ : ∃ n, n = l.length := ⟨_, rfl⟩
  induction n generalizing l with
  | zero => exact absurd (List.eq_nil_of_length_eq_zero hn.symm) hl
  | succ n ih =>
    rcases List.eq_nil_or_concat l with rfl | ⟨m, y, rfl⟩
    · exact absurd rfl hl
    · rw [List.concat_eq_append, around_snoc]
      by_cases hm : m = []
      · subst hm
        rw [if_pos rfl]
        refine ⟨fun v hv => ?_, ⟨y, by simp, rfl⟩, ⟨y, by simp, rfl⟩⟩
        rw [List.nil_append, List.mem_singleton] at hv
        subst hv
        exact holds_self v
      · rw [if_neg hm]
        obtain ⟨i1, ⟨v1, m1, e1⟩, v2, m2, e2⟩ := ih m hm (by simp at hn; omega)
        refine ⟨fun v hv => ?_, ?_, ?_⟩
        · rcases List.mem_append.1 hv with q | q
          · exact holds_join (i1 v q)
          · rw [List.mem_singleton.1 q]; exact holds_new _ _
        · show ∃ v, v ∈ m ++ [y] ∧ rv v.x = rmin (bjoins (m.map pbox)).lo.x (rv y.x)
          rcases rmin_or (bjoins (m.map pbox)).lo.x (rv y.x) with q | q <;> rw [q]
          · exact ⟨v1, List.mem_append_left _ m1, e1⟩
          · exact ⟨y, by simp, rfl⟩
        · show ∃ v, v ∈ m ++ [y] ∧ rv v.z = rmax (bjoins (m.map pbox)).hi.z (rv y.z)
          rcases rmax_or (bjoins (m.map pbox)).hi.z (rv y.z) with q | q <;> rw [q]
          · exact ⟨v2, List.mem_append_left _ m2, e2⟩
          · exact ⟨y, by simp, rfl⟩
theorem rmin_absorb (a b : Rat) : rmin a (rmin a b) = rmin a b := by unfold rmin; repeat' split <;> grind
theorem rmax_absorb (a b : Rat) : rmax a (rmax a b) = rmax a b := by unfold rmax; repeat' split <;> grind
theorem bjoin_absorb (b c : B3) : bjoin b (bjoin b c) = bjoin b c := by
  simp [bjoin, vmin, vmax, rmin_absorb, rmax_absorb]
theorem cells_dVs (l : List VL) : ∀ u, u ∈ Ψ .dVs l → u.cells.length = 9 := fun u h => by
  rw [p_dVs, List.mem_map] at h
  obtain ⟨r, _, rfl⟩ := h
  rfl
theorem cells_dBs (l : List BL) : ∀ u, u ∈ Ψ .dBs l → u.cells.length = 18 := fun u h => by
  rw [p_dBs, List.mem_map] at h
  obtain ⟨r, _, rfl⟩ := h
  rfl
theorem scat_dVs (l m : List VL) : Ω .scat (Ψ .dVs l) (Ψ .dVs m) = Ψ .dVs (l ++ m) := by simp [w_scat, p_dVs]
end Go.K
namespace Go.K.S
open Go Go.K
set_option maxHeartbeats 8000000
set_option maxRecDepth 20000
set_option linter.unusedVariables false
set_option linter.unusedSimpArgs false

theorem boxesHold_good (l : List VL) (p : VL) (hl : l.length ≤ 1048576 ∧ ∀ v, v ∈ l → Vn 1048576 v) (hp : Vn 1048576 p) :
    Good P F.penumbralaw10_BoxesHold [.d (.sl (Ψ .dVs l)), .d (.agg (dV Ψ p))] [] (.d (.b true)) [] := by
  refine G.penumbralaw10_BoxesHold fun C C2 hC hC2 => ?_
  obtain ⟨hln, hl⟩ := hl
  have gf := fixed10_good
  have g1 := around_good l hl (by omega) (show 0 < 1048576 by omega) (by omega)
  have hlp : ∀ v, v ∈ l ++ [p] → Vn 1048576 v := fun v hv => by
    rcases List.mem_append.1 hv with q | q
    · exact hl v q
    · rw [List.mem_singleton.1 q]; exact hp
  have g2 := around_good (l ++ [p]) hlp (by simp; omega) (show 0 < 1048576 by omega) (by omega)
  have qb : ∀ m : List VL, (∀ v, v ∈ m → Vn 1048576 v) → Bn 1048576 (Ψ .cB (bjoins (m.map pbox))) := fun m hm => Bn_cB (Bq_joins (by omega) _ (fun b hb => by
    obtain ⟨v, hv, rfl⟩ := List.mem_map.1 hb
    exact ⟨hm v hv, hm v hv⟩))
  have q1 := qb l hl
  have q2 := qb (l ++ [p]) hlp
  have hcell := cells_dVs l
  have e : Ψ .dVs (l ++ [p]) = Ω .scat (Ω .scat [] (Ψ .dVs l)) [.agg (dV Ψ p)] := by rw [← scat_dVs]; rfl
  rw [e] at g2
  have hsay := around_says l
  have hsay2 := around_says (l ++ [p]) (by simp)
  have hsn := around_snoc l p
  have hx := fun v hv => rsame_good v.x (Ψ .cB (bjoins (l.map pbox))).lo.x (hl v hv).x q1.lo.x (by omega) (by omega)
  have hz := fun v hv => rsame_good v.z (Ψ .cB (bjoins (l.map pbox))).hi.z (hl v hv).z q1.hi.z (by omega) (by omega)
  have hh1 := fun v hv => holds_good (Ψ .cB (bjoins (l.map pbox))) v (k := 1048576) q1 (hl v hv) (by omega)
  have hh2 := fun v hv => holds_good (Ψ .cB (bjoins ((l ++ [p]).map pbox))) v (k := 1048576) q2 (hlp v hv) (by omega)
  have gj := join_good [Ψ .cB (bjoins (l.map pbox)), Ψ .cB (bjoins ((l ++ [p]).map pbox))] (k := 1048576) (fun b hb => by
    rcases mem2 hb with rfl | rfl
    · exact q1
    · exact q2) (by simp) (by omega) (by omega)
  have gis := is10_good (Ψ .cB (bjoins ((l ++ [p]).map pbox))) (Ψ .cB (bjoins ((l ++ [p]).map pbox))) q2 q2 (by omega) (by omega)
  rw [decide_eq_true rfl] at gis
  have ej : l ≠ [] → bjoins [Ψ .cB (bjoins (l.map pbox)), Ψ .cB (bjoins ((l ++ [p]).map pbox))] = bjoins ((l ++ [p]).map pbox) := fun h => by
    show bjoin (bv (Ψ .cB (bjoins (l.map pbox)))) (bv (Ψ .cB (bjoins ((l ++ [p]).map pbox)))) = _
    rw [bv_cB, bv_cB, hsn, if_neg h, bjoin_absorb]
  rw [bv_cB] at hh2
  simp only [bv_cB] at hh1
  have ex : rv (Ψ .cB (bjoins (l.map pbox))).lo.x = (bjoins (l.map pbox)).lo.x := rv_cr _
  have ez : rv (Ψ .cB (bjoins (l.map pbox))).hi.z = (bjoins (l.map pbox)).hi.z := rv_cr _
  rw [ex] at hx
  rw [ez] at hz
  generalize bjoins (l.map pbox) = b at *
  generalize bjoins ((l ++ [p]).map pbox) = c at *
  obtain ⟨low, hlow⟩ : ∃ f : Nat → Bool, f = fun i => decide (l.length = 0) || (l.take i).any fun v => decide (rv v.x = b.lo.x) := ⟨_, rfl⟩
  obtain ⟨high, hhigh⟩ : ∃ f : Nat → Bool, f = fun i => decide (l.length = 0) || (l.take i).any fun v => decide (rv v.z = b.hi.z) := ⟨_, rfl⟩
  have low0 : low 0 = decide (l.length = 0) := by rw [hlow]; simp
  have high0 : high 0 = decide (l.length = 0) := by rw [hhigh]; simp
  have lowS : ∀ i v, l[i]? = some v → low (i + 1) = (low i || decide (rv v.x = b.lo.x)) := fun i v hv => by rw [hlow]; simp only [take_succ_of hv, List.any_append, List.any_cons, List.any_nil, Bool.or_false, Bool.or_assoc]
  have highS : ∀ i v, l[i]? = some v → high (i + 1) = (high i || decide (rv v.z = b.hi.z)) := fun i v hv => by rw [hhigh]; simp only [take_succ_of hv, List.any_append, List.any_cons, List.any_nil, Bool.or_false, Bool.or_assoc]
  have lowL : low l.length = true := by
    rw [hlow]; simp only [List.take_length]
    by_cases h : l = []
    · subst h; rfl
    · obtain ⟨_, ⟨v, hv, e⟩, _⟩ := hsay h
      rw [List.any_eq_true.2 ⟨v, hv, decide_eq_true e⟩, Bool.or_true]
  have highL : high l.length = true := by
    rw [hhigh]; simp only [List.take_length]
    by_cases h : l = []
    · subst h; rfl
    · obtain ⟨_, _, v, hv, e⟩ := hsay h
      rw [List.any_eq_true.2 ⟨v, hv, decide_eq_true e⟩, Bool.or_true]
  clear hlow hhigh q1 q2 qb hsn ex ez e
  have hp2 : p ∈ l ++ [p] := by simp
  have ghp := hh2 p hp2
  rw [decide_eq_true (hsay2.1 p hp2)] at ghp
  obtain ⟨t0, ht0⟩ : ∃ t, t = decide (l.length = 0) := ⟨_, rfl⟩
  rw [← ht0] at low0 high0
  have hq : Ω .eq (Ω .ci l.length) 0 = t0 := by
    rw [ht0]
    by_cases h : l.length = 0
    · rw [decide_eq_true h]; simp only [wz]; omega
    · rw [decide_eq_false h]; simp only [wz]; omega
  have gj' : t0 = false → Good P F.boxes_Join [.d (.sl [.agg (dB Ψ (Ψ .cB b)), .agg (dB Ψ (Ψ .cB c))])] [] (.d (.agg (dB Ψ (Ψ .cB c)))) [] := fun h => by
    rw [ej (fun q => by rw [ht0, q] at h; cases h)] at gj
    exact gj
  clear gj ej
  cases t0
  all_goals
    first | (have gj2 := gj' rfl) | skip
    clear gj'
    refine rn ?_
    refine LoopG.intro (σ := Nat) [0, 3, 4, 5, 6, 7, 8, 9] [1050, 1051, 1052]
      (fun i => [.d (.sl (Ψ .dVs l)), .ptr 1050 0, .d (.b false), .ptr 1051 0, .ptr 1052 0, .d (.b (low i)), .d (.b (high i)), .d (.i .i64 (Ω .ci i))])
      (fun i => [.var ((dV Ψ p).map V.d), .var ((dB Ψ (Ψ .cB b)).map V.d), .var ((dB Ψ (Ψ .cB c)).map V.d)])
      (fun i => i ≤ l.length)
      (fun i => l.length - i) 0 [1000, 1102, 1207] (Nat.zero_le _) ⟨rfl, by rw [low0, high0]; rfl, rfl⟩ ?_
    intro i hi
    rcases Nat.lt_or_ge i l.length with hlt | hge
    focus
      obtain ⟨v, hv⟩ : ∃ v, l[i]? = some v := ⟨_, List.getElem?_eq_getElem hlt⟩
      have hel : Ω .sget (Ψ .dVs l) i = some (.agg (dV Ψ v)) := by rw [sget_dVs, hv]; rfl
      have hm := List.mem_of_getElem? hv
      have hne : l ≠ [] := fun h => by rw [h] at hlt; exact absurd hlt (Nat.not_lt_zero _)
      have e1 := hh1 v hm
      rw [decide_eq_true ((hsay hne).1 v hm)] at e1
      have e2 := hh2 v (List.mem_append_left _ hm)
      rw [decide_eq_true (hsay2.1 v (List.mem_append_left _ hm))] at e2
      have e3 := hx v hm
      have e4 := hz v hm
      have ls := lowS i v hv
      have hs := highS i v hv
      have hqi : Ω .lt (Ω .ci i) (Ω .ci l.length) = true := by simp only [wz]; omega
      generalize decide (rv v.x = b.lo.x) = tx at *
      generalize decide (rv v.z = b.hi.z) = tz at *
      generalize low i = li at *
      generalize high i = hi' at *
      clear hh1 hh2 hx hz
      cases li <;> cases hi'
      all_goals
        refine rn ?_
        refine ⟨i + 1, [1050, 1051, 1052], hlt, by omega, rfl, ?_, rfl⟩
        refine Eq.trans (b := [.d (.sl (Ψ .dVs l)), .ptr 1050 0, .d (.b false), .ptr 1051 0, .ptr 1052 0, .d (.b _), .d (.b _), .d (.i .i64 _)]) rfl ?_
        rw [wrap_succ (by omega), ls, hs]; rfl
    focus
      have hli : low i = true := by rw [show i = l.length by omega]; exact lowL
      have hhi : high i = true := by rw [show i = l.length by omega]; exact highL
      have hqi : Ω .lt (Ω .ci i) (Ω .ci l.length) = false := by simp only [wz]; omega
      generalize low i = li at *
      generalize high i = hi' at *
      subst hli hhi
      clear hh1 hh2 hx hz
      exact rn trivial
end Go.K.S
end
section
/-
  Contracts: where a ray meets a triangle, by the program and by the document.
-/
namespace Go.K
open Go
set_option linter.unusedVariables false
structure TL where
  a : VL
  b : VL
  c : VL
structure T3 where
  a : V3
  b : V3
  c : V3
def tv (t : TL) : T3 := ⟨vv t.a, vv t.b, vv t.c⟩
def dT (Ψ : (t : Sd) → STy t) (t : TL) : List D := dV Ψ t.a ++ dV Ψ t.b ++ dV Ψ t.c
structure Tn (k : Nat) (t : TL) : Prop where
  a : Vn k t.a
  b : Vn k t.b
  c : Vn k t.c
theorem Tn.mono {j k : Nat} {t : TL} (h : Tn j t) (hjk : j ≤ k) : Tn k t := ⟨h.a.mono hjk, h.b.mono hjk, h.c.mono hjk⟩
def m0 : M3 := ⟨0, 0, 0⟩
/-- where a ray meets a triangle, by one division -/
def hitS (o d : V3) (t : T3) : Option M3 :=
  if vdot (vsub t.b t.a) (vcross d (vsub t.c t.a)) = 0 then none
  else if 1 / vdot (vsub t.b t.a) (vcross d (vsub t.c t.a)) * vdot (vsub o t.a) (vcross d (vsub t.c t.a)) < 0 then none
  else if 1 / vdot (vsub t.b t.a) (vcross d (vsub t.c t.a)) * vdot d (vcross (vsub o t.a) (vsub t.b t.a)) < 0 ∨ 1 / vdot (vsub t.b t.a) (vcross d (vsub t.c t.a)) * vdot (vsub t.c t.a) (vcross (vsub o t.a) (vsub t.b t.a)) ≤ 0
      ∨ 1 < 1 / vdot (vsub t.b t.a) (vcross d (vsub t.c t.a)) * vdot (vsub o t.a) (vcross d (vsub t.c t.a)) + 1 / vdot (vsub t.b t.a) (vcross d (vsub t.c t.a)) * vdot d (vcross (vsub o t.a) (vsub t.b t.a)) then none
  else some ⟨1 / vdot (vsub t.b t.a) (vcross d (vsub t.c t.a)) * vdot (vsub t.c t.a) (vcross (vsub o t.a) (vsub t.b t.a)), 1 / vdot (vsub t.b t.a) (vcross d (vsub t.c t.a)) * vdot (vsub o t.a) (vcross d (vsub t.c t.a)),
      1 / vdot (vsub t.b t.a) (vcross d (vsub t.c t.a)) * vdot d (vcross (vsub o t.a) (vsub t.b t.a))⟩
def hitM (o d : V3) (t : T3) : M3 := (hitS o d t).getD m0
def hitOk (o d : V3) (t : T3) : Bool := (hitS o d t).isSome
theorem of01 : ((0 : Int) : Rat) / ((1 : Int) : Rat) = 0 := by
  have : ((1 : Int) : Rat) = 1 := rfl
  have h2 : ((0 : Int) : Rat) = 0 := rfl
  rw [this, h2]; grind
theorem of11 : ((1 : Int) : Rat) / ((1 : Int) : Rat) = 1 := by
  have : ((1 : Int) : Rat) = 1 := rfl
  rw [this]; grind
end Go.K
namespace Go.K.S
open Go Go.K
set_option maxHeartbeats 8000000
set_option maxRecDepth 20000
set_option linter.unusedVariables false
set_option linter.unusedSimpArgs false

theorem sides_good (t : TL) {k : Nat} (h : Tn k t) (hk : 0 < k) (hk2 : k < 68719476736) :
    Good P F.tri_sides [.d (.agg (dT Ψ t))] [] (.tup [.d (.agg (dV Ψ (Ψ .cV (vsub (vv t.b) (vv t.a))))), .d (.agg (dV Ψ (Ψ .cV (vsub (vv t.c) (vv t.a)))))]) [] := by
  refine G.tri_sides fun C C2 hC hC2 => ?_
  have g1 := vsub_good t.b t.a h.b h.a hk hk2
  have g2 := vsub_good t.c t.a h.c h.a hk hk2
  exact rn trivial

theorem of01_good : Good P F.rat_Of [.d (.i .i64 0), .d (.i .i64 1)] [] (.d (.agg (dR Ψ (Ψ .cr 0)))) [] := by
  have g := rof_good 0 1 (by omega) (by omega) (by omega) (by omega)
  rw [of01] at g
  exact g
theorem of11_good : Good P F.rat_Of [.d (.i .i64 1), .d (.i .i64 1)] [] (.d (.agg (dR Ψ (Ψ .cr 1)))) [] := by
  have g := rof_good 1 1 (by omega) (by omega) (by omega) (by omega)
  rw [of11] at g
  exact g

theorem hit_good (o d : VL) (t : TL) {k : Nat} (ho : Vn k o) (hd : Vn k d) (ht : Tn k t) (hk : 0 < k) (hk2 : k < 134217728) :
    Good P F.tri_Hit [.d (.agg (dV Ψ o)), .d (.agg (dV Ψ d)), .d (.agg (dT Ψ t))] [] (.tup [.d (.agg (dM Ψ (Ψ .cM (hitM (vv o) (vv d) (tv t))))), .d (.b (hitOk (vv o) (vv d) (tv t)))]) [] := by
  refine G.tri_Hit fun C C2 hC hC2 => ?_
  have po := Pn_vv ho hk
  have pd := Pn_vv hd hk
  have pa := Pn_vv ht.a hk
  have g0 := of01_good
  have g1 := of11_good
  have gs := sides_good t ht hk (by omega)
  have pb := Pn_sub (Pn_vv ht.b hk) pa
  have pc := Pn_sub (Pn_vv ht.c hk) pa
  have gp := vcross_good d _ (hd.mono (show k ≤ k + k + 1 by omega)) (Vn_cV pc) (by omega) (by omega)
  rw [vv_cV] at gp
  have pp := Pn_cross pd pc (by omega)
  have gdet := vdot_good _ _ ((Vn_cV pb).mono (show _ ≤ 6 * k + 3 by omega)) ((Vn_cV pp).mono (show _ ≤ 6 * k + 3 by omega)) (by omega) (by omega)
  rw [vv_cV, vv_cV] at gdet
  have qdet := (Qn_dot pb pp (by omega)).mono (show _ ≤ 24 * k + 14 by omega)
  have gk := rdiv_good (Ψ .cr 1) _ (Rn_cr.2 (Qn_one (k := 1) (by omega))) (Rn_cr.2 qdet) (by omega) (by omega) (by omega) (by omega)
  rw [rv_cr, rv_cr] at gk
  have qk := (Qn_div (Qn_one (k := 1) (by omega)) qdet (by omega)).mono (show _ ≤ 24 * k + 15 by omega)
  have gf := vsub_good o t.a ho ht.a hk (by omega)
  have pf := Pn_sub po pa
  have gfp := vdot_good _ _ ((Vn_cV pf).mono (show _ ≤ 6 * k + 3 by omega)) ((Vn_cV pp).mono (show _ ≤ 6 * k + 3 by omega)) (by omega) (by omega)
  rw [vv_cV, vv_cV] at gfp
  have qfp := (Qn_dot pf pp (by omega)).mono (show _ ≤ 24 * k + 14 by omega)
  have gu := prod2_good _ _ (Rn_cr.2 qk) ((Rn_cr.2 qfp).mono (show _ ≤ 24 * k + 15 by omega)) (by omega) (by omega)
  rw [rv_cr, rv_cr] at gu
  have qu := (Qn_mul qk qfp (by omega)).mono (show _ ≤ 60 * k + 60 by omega)
  have gsu := sign_good _ (Rn_cr.2 qu) (by omega)
  rw [rv_cr] at gsu
  have gq := vcross_good _ _ (Vn_cV pf) (Vn_cV pb) (by omega) (by omega)
  rw [vv_cV, vv_cV] at gq
  have pq := Pn_cross pf pb (by omega)
  have gdq := vdot_good d _ (hd.mono (show _ ≤ 8 * k + 5 by omega)) ((Vn_cV pq).mono (show _ ≤ 8 * k + 5 by omega)) (by omega) (by omega)
  rw [vv_cV] at gdq
  have qdq := (Qn_dot pd pq (by omega)).mono (show _ ≤ 30 * k + 20 by omega)
  have gv := prod2_good _ _ ((Rn_cr.2 qk).mono (show _ ≤ 30 * k + 20 by omega)) ((Rn_cr.2 qdq).mono (show _ ≤ 30 * k + 20 by omega)) (by omega) (by omega)
  rw [rv_cr, rv_cr] at gv
  have qv := (Qn_mul qk qdq (by omega)).mono (show _ ≤ 60 * k + 60 by omega)
  have gsv := sign_good _ (Rn_cr.2 qv) (by omega)
  rw [rv_cr] at gsv
  have gcq := vdot_good _ _ ((Vn_cV pc).mono (show _ ≤ 8 * k + 5 by omega)) ((Vn_cV pq).mono (show _ ≤ 8 * k + 5 by omega)) (by omega) (by omega)
  rw [vv_cV, vv_cV] at gcq
  have qcq := (Qn_dot pc pq (by omega)).mono (show _ ≤ 32 * k + 24 by omega)
  have gss := prod2_good _ _ ((Rn_cr.2 qk).mono (show _ ≤ 32 * k + 24 by omega)) ((Rn_cr.2 qcq).mono (show _ ≤ 32 * k + 24 by omega)) (by omega) (by omega)
  rw [rv_cr, rv_cr] at gss
  have qs := (Qn_mul qk qcq (by omega)).mono (show _ ≤ 60 * k + 60 by omega)
  have gsss := sign_good _ (Rn_cr.2 qs) (by omega)
  rw [rv_cr] at gsss
  have guv := sum2_good _ _ (Rn_cr.2 qu) (Rn_cr.2 qv) (by omega) (by omega)
  rw [rv_cr, rv_cr] at guv
  have quv := Qn_add qu qv
  have gcmp := rcmp_good _ (Ψ .cr 1) (Rn_cr.2 quv) (Rn_cr.2 (Qn_one (k := 1) (by omega))) (by omega) (by omega)
  rw [rv_cr, rv_cr] at gcmp
  clear po pd pa pb pc pp qdet qk pf qfp qu pq qdq qv qcq qs quv
  have hm : hitM (vv o) (vv d) (tv t) = (hitS (vv o) (vv d) (tv t)).getD m0 := rfl
  have hok : hitOk (vv o) (vv d) (tv t) = (hitS (vv o) (vv d) (tv t)).isSome := rfl
  rw [hm, hok]
  clear hm hok
  unfold hitS
  simp only [show (tv t).a = vv t.a from rfl, show (tv t).b = vv t.b from rfl, show (tv t).c = vv t.c from rfl]
  generalize vdot (vsub (vv t.b) (vv t.a)) (vcross (vv d) (vsub (vv t.c) (vv t.a))) = det at *
  generalize vdot (vsub (vv o) (vv t.a)) (vcross (vv d) (vsub (vv t.c) (vv t.a))) = fp at *
  generalize vdot (vv d) (vcross (vsub (vv o) (vv t.a)) (vsub (vv t.b) (vv t.a))) = dq at *
  generalize vdot (vsub (vv t.c) (vv t.a)) (vcross (vsub (vv o) (vv t.a)) (vsub (vv t.b) (vv t.a))) = cq at *
  generalize vsub (vv t.b) (vv t.a) = B at *
  generalize vsub (vv t.c) (vv t.a) = Cc at *
  generalize vsub (vv o) (vv t.a) = f at *
  generalize vcross (vv d) Cc = p at *
  generalize vcross f B = q at *
  have hz : Ψ .cM m0 = ⟨Ψ .cr 0, Ψ .cr 0, Ψ .cr 0⟩ := rfl
  by_cases h0 : det = 0
  · rw [if_pos h0]
    rw [decide_eq_false (fun c => c h0)] at gk
    rw [Option.getD_none, hz]
    exact rn trivial
  rw [if_neg h0]
  rw [decide_eq_true h0] at gk
  generalize 1 / det = kk at *
  have zu := @sI_neg (kk * fp)
  generalize kk * fp = u at *
  generalize Ψ .sI u = su at *
  by_cases hu : u < 0
  · rw [if_pos hu]
    have zu' := lt_true.2 (zu.2 hu)
    rw [Option.getD_none, hz]
    exact rn trivial
  rw [if_neg hu]
  have zu' := lt_false.2 (Int.not_lt.1 (mt zu.1 hu))
  have zv := @sI_neg (kk * dq)
  generalize kk * dq = v at *
  generalize Ψ .sI v = sv at *
  by_cases hv : v < 0
  · rw [if_pos (.inl hv)]
    have zv' := lt_true.2 (zv.2 hv)
    rw [Option.getD_none, hz]
    exact rn trivial
  have zv' := lt_false.2 (Int.not_lt.1 (mt zv.1 hv))
  have zs := @sI_nonpos (kk * cq)
  generalize kk * cq = s at *
  generalize Ψ .sI s = ss at *
  by_cases hs : s ≤ 0
  · rw [if_pos (.inr (.inl hs))]
    have zs' := le_true.2 (zs.2 hs)
    rw [Option.getD_none, hz]
    exact rn trivial
  have zs' := le_false.2 (Int.not_le.1 (mt zs.1 hs))
  have zc := @cI_pos (u + v) 1
  generalize Ψ .cI (u + v) 1 = ic at *
  by_cases hc : 1 < u + v
  · rw [if_pos (.inr (.inr hc))]
    have zc' := lt_true.2 (zc.2 hc)
    rw [Option.getD_none, hz]
    exact rn trivial
  have zc' := lt_false.2 (Int.not_lt.1 (mt zc.1 hc))
  rw [if_neg (fun c => c.elim hv fun c => c.elim hs hc), Option.getD_some]
  have hmm : Ψ .cM ⟨s, u, v⟩ = ⟨Ψ .cr s, Ψ .cr u, Ψ .cr v⟩ := rfl
  rw [hmm]
  exact rn trivial
end Go.K.S
end
section
/-
  The law BoxesMeet, as a contract.
-/
namespace Go.K
open Go Go.K.S
theorem btw_mix {a b c u v lo hi : Rat} (ha : btw a lo hi) (hb : btw b lo hi) (hc : btw c lo hi) (hu : 0 ≤ u) (hv : 0 ≤ v) (huv : u + v ≤ 1) : btw (a + u * (b - a) + v * (c - a)) lo hi := by
  unfold btw at *
  have p1 := Rat.mul_nonneg hu (show 0 ≤ b - lo by grind)
  have p2 := Rat.mul_nonneg hv (show 0 ≤ c - lo by grind)
  have p3 := Rat.mul_nonneg (show 0 ≤ 1 - u - v by grind) (show 0 ≤ a - lo by grind)
  have q1 := Rat.mul_nonneg hu (show 0 ≤ hi - b by grind)
  have q2 := Rat.mul_nonneg hv (show 0 ≤ hi - c by grind)
  have q3 := Rat.mul_nonneg (show 0 ≤ 1 - u - v by grind) (show 0 ≤ hi - a by grind)
  constructor <;> grind
/-- where a ray meets a triangle it is a mixture of the corners -/
theorem hit_point {o d : V3} {t : T3} {m : M3} (h : hitS o d t = some m) : d ≠ v0 ∧ 0 < m.s ∧ 0 ≤ m.u ∧ 0 ≤ m.v ∧ m.u + m.v ≤ 1 ∧ vat o d m.s = vadd t.a (vadd (vmul m.u (vsub t.b t.a)) (vmul m.v (vsub t.c t.a))) := by
  unfold hitS at h
  split at h
  · cases h
  rename_i h0
  split at h
  · cases h
  rename_i hu
  split at h
  · cases h
  rename_i hr
  cases h
  have hd : d ≠ v0 := fun h => h0 (by subst h; unfold vdot vcross v0; grind)
  simp only
  refine ⟨hd, by grind, by grind, by grind, by grind, ?_⟩
  have e : ∀ f b c d : V3, vadd (vmul (vdot b (vcross d c)) f) (vmul (vdot c (vcross f b)) d) = vadd (vmul (vdot f (vcross d c)) b) (vmul (vdot d (vcross f b)) c) := fun f b c d => by
    unfold vadd vmul vdot vcross; simp only [V3.mk.injEq]; refine ⟨?_, ?_, ?_⟩ <;> grind
  have e1 := e (vsub o t.a) (vsub t.b t.a) (vsub t.c t.a) d
  have ho : o = vadd t.a (vsub o t.a) := by
    obtain ⟨x, y, z⟩ := o
    unfold vadd vsub; simp only [V3.mk.injEq]; refine ⟨?_, ?_, ?_⟩ <;> grind
  generalize vsub t.b t.a = b at *
  generalize vsub t.c t.a = c at *
  generalize vsub o t.a = f at *
  generalize vdot b (vcross d c) = det at *
  generalize vdot f (vcross d c) = fp at *
  generalize vdot d (vcross f b) = dq at *
  generalize vdot c (vcross f b) = cq at *
  rw [ho]
  unfold vadd vmul at e1
  simp only [V3.mk.injEq] at e1
  obtain ⟨e2, e3, e4⟩ := e1
  unfold vat vadd vmul; simp only [V3.mk.injEq]; refine ⟨?_, ?_, ?_⟩ <;> grind
theorem meet_law {o d : V3} {t : TL} {m : M3} (h : hitS o d (tv t) = some m) : holds (bjoins ([t.a, t.b, t.c].map pbox)) (vat o d m.s) := by
  obtain ⟨_, _, hu, hv, huv, hp⟩ := hit_point h
  have hs := (around_says [t.a, t.b, t.c] (by simp)).1
  have ha := hs t.a (by simp)
  have hb := hs t.b (by simp)
  have hc := hs t.c (by simp)
  generalize bjoins ([t.a, t.b, t.c].map pbox) = bx at *
  rw [hp]
  refine ⟨?_, ?_, ?_⟩
  · have := btw_mix ha.1 hb.1 hc.1 hu hv huv
    simp only [vadd, vmul, vsub, tv]; rw [← Rat.add_assoc]; exact this
  · have := btw_mix ha.2.1 hb.2.1 hc.2.1 hu hv huv
    simp only [vadd, vmul, vsub, tv]; rw [← Rat.add_assoc]; exact this
  · have := btw_mix ha.2.2 hb.2.2 hc.2.2 hu hv huv
    simp only [vadd, vmul, vsub, tv]; rw [← Rat.add_assoc]; exact this
theorem Qn_hit {o d : VL} {t : TL} {k : Nat} (ho : Vn k o) (hd : Vn k d) (ht : Tn k t) (hk : 0 < k) {m : M3} (h : hitS (vv o) (vv d) (tv t) = some m) : Qn (60 * k + 60) m.s ∧ Qn (60 * k + 60) m.u ∧ Qn (60 * k + 60) m.v := by
  unfold hitS at h
  split at h
  · cases h
  split at h
  · cases h
  split at h
  · cases h
  cases h
  have po := Pn_vv ho hk
  have pd := Pn_vv hd hk
  have pa := Pn_vv ht.a hk
  have pb := Pn_sub (Pn_vv ht.b hk) pa
  have pc := Pn_sub (Pn_vv ht.c hk) pa
  have pp := Pn_cross pd pc (by omega)
  have qdet := (Qn_dot pb pp (by omega)).mono (show _ ≤ 24 * k + 14 by omega)
  have qk := (Qn_div (Qn_one (k := 1) (by omega)) qdet (by omega)).mono (show _ ≤ 24 * k + 15 by omega)
  have pf := Pn_sub po pa
  have qfp := (Qn_dot pf pp (by omega)).mono (show _ ≤ 24 * k + 14 by omega)
  have pq := Pn_cross pf pb (by omega)
  have qdq := (Qn_dot pd pq (by omega)).mono (show _ ≤ 30 * k + 20 by omega)
  have qcq := (Qn_dot pc pq (by omega)).mono (show _ ≤ 32 * k + 24 by omega)
  exact ⟨(Qn_mul qk qcq (by omega)).mono (by omega), (Qn_mul qk qfp (by omega)).mono (by omega), (Qn_mul qk qdq (by omega)).mono (by omega)⟩
end Go.K
namespace Go.K.S
open Go Go.K
set_option maxHeartbeats 8000000
set_option maxRecDepth 20000
set_option linter.unusedVariables false
set_option linter.unusedSimpArgs false

theorem boxesMeet_good (o d : VL) (t : TL) (ho : Vn 1048576 o) (hd : Vn 1048576 d) (ht : Tn 1048576 t) :
    Good P F.penumbralaw10_BoxesMeet [.d (.agg (dV Ψ o)), .d (.agg (dV Ψ d)), .d (.agg (dT Ψ t))] [] (.d (.b true)) [] := by
  refine G.penumbralaw10_BoxesMeet fun C C2 hC hC2 => ?_
  have gf := fixed10_good
  have gh := hit_good o d t ho hd ht (by omega) (by omega)
  have ga : Good P F.boxes_Around [.d (.sl [.agg (dV Ψ t.a), .agg (dV Ψ t.b), .agg (dV Ψ t.c)])] [] (.d (.agg (dB Ψ (Ψ .cB (bjoins ([t.a, t.b, t.c].map pbox)))))) [] :=
    around_good [t.a, t.b, t.c] (k := 1048576) (fun b hb => by rcases mem3 hb with rfl | rfl | rfl; exact ht.a; exact ht.b; exact ht.c) (by simp) (by omega) (by omega)
  have qbx : Bn 1048576 (Ψ .cB (bjoins ([t.a, t.b, t.c].map pbox))) := Bn_cB (Bq_joins (by omega) _ (fun b hb => by
    obtain ⟨v, hv, rfl⟩ := List.mem_map.1 hb
    rcases mem3 hv with rfl | rfl | rfl
    · exact ⟨ht.a, ht.a⟩
    · exact ⟨ht.b, ht.b⟩
    · exact ⟨ht.c, ht.c⟩))
  cases hS : hitS (vv o) (vv d) (tv t) with
  | none =>
    have h1 : hitOk (vv o) (vv d) (tv t) = false := by unfold hitOk; rw [hS]; rfl
    rw [h1] at gh
    generalize hitM (vv o) (vv d) (tv t) = m at *
    clear ga qbx
    exact rn trivial
  | some m =>
    have h1 : hitOk (vv o) (vv d) (tv t) = true := by unfold hitOk; rw [hS]; rfl
    have h2 : hitM (vv o) (vv d) (tv t) = m := by unfold hitM; rw [hS]; rfl
    rw [h1, h2] at gh
    obtain ⟨hd0, hs0, _⟩ := hit_point hS
    have hm := meet_law hS
    obtain ⟨qs, _, _⟩ := Qn_hit ho hd ht (by omega) hS
    have gc := clip_good o d _ ho hd qbx (by omega) (by omega)
    have wl := within_law (o := vv o) (d := vv d) (b := bjoins ([t.a, t.b, t.c].map pbox)) (s := m.s) (by grind)
    have sn := Sn_clipS ho hd qbx (by omega)
    rw [bv_cB] at gc sn
    have gat := at8_good o d (Ψ .cr m.s) (k := 60 * 1048576 + 60) (ho.mono (by omega)) (hd.mono (by omega)) (Rn_cr.2 qs) (by omega) (by omega)
    rw [rv_cr] at gat
    have pa : Pn (64 * 1048576) (vat (vv o) (vv d) m.s) := (Pn_add (Pn_vv ho (by omega)) (Pn_mul qs (Pn_vv hd (by omega)) (by omega))).mono (by omega)
    have ghd := holds_good (Ψ .cB (bjoins ([t.a, t.b, t.c].map pbox))) (Ψ .cV (vat (vv o) (vv d) m.s)) (k := 64 * 1048576) (qbx.mono (by omega)) (Vn_cV pa) (by omega)
    rw [vv_cV, bv_cB, decide_eq_true hm] at ghd
    change Good P _ _ _ (V.d (.agg (dV Ψ (Ψ .cV (vat (vv o) (vv d) m.s))))) _ at gat
    rw [decide_eq_true hm] at wl
    have gn := null5_good d hd (by omega) (by omega)
    rw [decide_eq_false hd0] at gn
    have c1 := rcmp_good (Ψ .cr m.s) (Ψ .cr (clipS (vv o) (vv d) (bjoins ([t.a, t.b, t.c].map pbox))).from') (Rn_cr.2 qs) (Rn_cr.2 sn.f) (by omega) (by omega)
    have c2 := rcmp_good (Ψ .cr m.s) (Ψ .cr (clipS (vv o) (vv d) (bjoins ([t.a, t.b, t.c].map pbox))).to') (Rn_cr.2 qs) (Rn_cr.2 sn.t) (by omega) (by omega)
    rw [rv_cr, rv_cr] at c1 c2
    have z1 := @cI_nonneg m.s (clipS (vv o) (vv d) (bjoins ([t.a, t.b, t.c].map pbox))).from'
    have z2 := @cI_nonpos m.s (clipS (vv o) (vv d) (bjoins ([t.a, t.b, t.c].map pbox))).to'
    clear sn hm pa qbx
    generalize clipOk (vv o) (vv d) (bjoins ([t.a, t.b, t.c].map pbox)) = ok at *
    generalize clipS (vv o) (vv d) (bjoins ([t.a, t.b, t.c].map pbox)) = S at *
    generalize bjoins ([t.a, t.b, t.c].map pbox) = bx at *
    obtain ⟨f, tt', op⟩ := S
    simp only at *
    cases ok
    · cases wl
    rw [Bool.true_and] at wl
    by_cases h1 : f ≤ m.s
    · have z1' := le_true.2 (z1.2 h1)
      rw [decide_eq_true h1, Bool.true_and] at wl
      generalize Ψ .cI m.s f = i1 at *
      cases op
      · rw [Bool.false_or] at wl
        have z2' := le_true.2 (z2.2 (of_decide_eq_true wl.symm))
        generalize Ψ .cI m.s tt' = i2 at *
        exact rn trivial
      · exact rn trivial
    · rw [decide_eq_false h1] at wl
      cases wl
end Go.K.S
end
section
/-
  What is read at the program's types: pairs of points, triangles.
-/
namespace Go.K.S
open Go Go.K
set_option linter.unusedSimpArgs false
set_option maxRecDepth 20000
section
variable {H : Type} (B : Bulk H) (enc : TypeId × Value → H) (w : World)

theorem opens_vec2 : Opens B enc P w T.A2_api_Vec 18 (fun x : VL × VL => dV Ψ x.1 ++ dV Ψ x.2) (fun b x => Vn b x.1 ∧ Vn b x.2) :=
  opens_array2 (t := T.A2_api_Vec) (e := T.api_Vec) (n := 9) (und_of rfl rfl) (by kernel_rfl) (opens_vec B enc w)

theorem opens_tri : Opens B enc P w T.api_Tri 27 (dT Ψ) Tn :=
  opens_map (opens_struct (t := T.api_Tri) (und_of rfl rfl) (by kernel_rfl)
      (opensF_cons (f := { name := "A", type := T.api_Vec, offset := 0, embedded := false, tag := "", pkgPath := "", byteOffset := 0 }) rfl (opens_vec B enc w)
        (opensF_cons (f := { name := "B", type := T.api_Vec, offset := 9, embedded := false, tag := "", pkgPath := "", byteOffset := 168 }) rfl (opens_vec B enc w)
          (opensF_cons (f := { name := "C", type := T.api_Vec, offset := 18, embedded := false, tag := "", pkgPath := "", byteOffset := 336 }) rfl (opens_vec B enc w) (opensF_nil _)))))
    (fun x => ⟨x.1, x.2.1, x.2.2.1⟩) _ _ (fun _ => rfl) (fun _ => rfl) (fun _ _ _ hb h => h.mono hb) (fun b x h => ⟨h.1, h.2.1, h.2.2.1⟩)

theorem opens_tris : Opens B enc P w T.L_api_Tri 1 (fun l : List TL => [.sl (l.map fun t => .agg (dT Ψ t))]) (fun b l => l.length ≤ b ∧ ∀ t, t ∈ l → Tn b t) :=
  opens_map (opens_slice (t := T.L_api_Tri) true (und_of rfl rfl) (by kernel_rfl) (opens_tri B enc w) (by omega) (fun _ => rfl))
    (fun l => l) _ _ (fun l => rfl) (fun _ => rfl) (fun _ _ _ hb h => ⟨Nat.le_trans h.1 hb, fun v hv => (h.2 v hv).mono hb⟩) (fun b l h => h)
end
end Go.K.S
end
