/-
  Parts of the proof, joined by a program of this work: KAuto, KRefClip, KLawClipQ, KLawBoxesClip.
-/
import Derived.Test.YtbemciakckdjlaaLf
import Derived.Test.YtbemciakckdjlaaLg
section
/-
  A reckoning that passes calls, elements and questions by what is at hand.
-/
namespace Go.K
set_option linter.unusedVariables false
theorem slen_scat (a b : List D) : Ω .slen (Ω .scat a b) = Ω .slen a + Ω .slen b := by simp [w_slen, w_scat]
theorem cells_dRs (l : List RL) : ∀ u, u ∈ Ψ .dRs l → u.cells.length = 3 := fun u h => by
  rw [p_dRs, List.mem_map] at h
  obtain ⟨r, _, rfl⟩ := h
  rfl
theorem scat_dRs (l m : List RL) : Ω .scat (Ψ .dRs l) (Ψ .dRs m) = Ψ .dRs (l ++ m) := by simp [w_scat, p_dRs]
structure Hid (Q : Prop) : Prop where
  out : Q
/-- a reckoning goes on; calls by contracts that are at hand, elements that are at hand, and questions that are known, are passed -/
theorem rn {P Q : Prop} (q : Q) (h : Hid Q → P := by
  intro q; (generalize hΩ : Ω = ω, hΨ : Ψ = ψ; cbv <;> subst hΩ hΨ <;> try simp only [lits, true_and, Int.reduceAdd, Int.reduceSub, Int.reduceMul, not_u32, slen_nil, tn_ci, tn_zero, slen_lims, slen_dRs, slen_dVs, slen_dBs])
  (repeat (
    first
      | refine ⟨_, hC _ _ _ (by assumption), ?_⟩
      | refine ⟨ci_nonneg _, _, (by assumption), rfl, ?_⟩
      | refine ⟨_, (by assumption), rfl, ?_⟩
      | refine ⟨ci_nonneg _, (by simp only [wz]; omega), _, (by assumption), (by first | exact Nat.le_refl _ | (simp; done)), rfl, ?_⟩
      | refine ⟨(by first | exact fun u h => by rw [List.mem_singleton.1 h]; rfl | exact cells_dRs _ | assumption), (by simp only [wz, slen_scat]; omega), ?_⟩
      | refine BrG.yes (by first | assumption | decide) ?_
      | refine BrG.no (by first | assumption | decide) ?_
    (generalize hΩ : Ω = ω, hΨ : Ψ = ψ; cbv <;> subst hΩ hΨ <;> try simp only [lits, true_and, Int.reduceAdd, Int.reduceSub, Int.reduceMul, not_u32, slen_nil, tn_ci, tn_zero, slen_lims, slen_dRs, slen_dVs, slen_dBs])))
  all_goals with_reducible exact q.out) : P := h ⟨q⟩
end Go.K
end
section
/-
  Contract: the document's Clip.
-/
namespace Go.K
open Go
def edgesQ (o d lo hi : Rat) : List Rat := if d = 0 then [] else (if 0 ≤ (lo - o) / d then [(lo - o) / d] else []) ++ (if 0 ≤ (hi - o) / d then [(hi - o) / d] else [])
theorem Bn.mono {j k : Nat} {b : BL} (h : Bn j b) (hjk : j ≤ k) : Bn k b := ⟨h.lo.mono hjk, h.hi.mono hjk⟩
theorem map_cr (l : List Rat) : Ψ .dRs (l.map (Ψ .cr)) = l.map fun q => D.agg (dR Ψ (Ψ .cr q)) := by
  rw [p_dRs, List.map_map]; rfl
end Go.K
namespace Go.K.S
open Go Go.K
set_option maxHeartbeats 8000000
set_option maxRecDepth 20000
set_option linter.unusedVariables false
set_option linter.unusedSimpArgs false

theorem edges10_good (o d lo hi : RL) {k : Nat} (ho : Rn k o) (hd : Rn k d) (hlo : Rn k lo) (hhi : Rn k hi) (hk : 0 < k) (hk2 : k < 34359738368) :
    Good P F.penumbraref10_edges [.d (.agg (dR Ψ o)), .d (.agg (dR Ψ d)), .d (.agg (dR Ψ lo)), .d (.agg (dR Ψ hi))] [] (.d (.sl (Ψ .dRs ((edgesQ (rv o) (rv d) (rv lo) (rv hi)).map (Ψ .cr))))) [] := by
  refine G.penumbraref10_edges fun C C2 hC hC2 => ?_
  have s1 := sub3_good lo o hlo ho hk (by omega) (by omega)
  have s2 := sub3_good hi o hhi ho hk (by omega) (by omega)
  have q1 := Qn_sub (Qn_rv hlo hk) (Qn_rv ho hk)
  have q2 := Qn_sub (Qn_rv hhi hk) (Qn_rv ho hk)
  have d1 := over3_good _ d (Rn_cr.2 q1) hd (by omega) (by omega)
  have d2 := over3_good _ d (Rn_cr.2 q2) hd (by omega) (by omega)
  rw [rv_cr] at d1 d2
  have t1 := Qn_div q1 (Qn_rv hd hk) hk
  have t2 := Qn_div q2 (Qn_rv hd hk) hk
  have sd := sign3_good d hd (by omega)
  have sa := sign3_good _ (Rn_cr.2 t1) (by omega)
  have sb := sign3_good _ (Rn_cr.2 t2) (by omega)
  rw [rv_cr] at sa sb
  by_cases hd0 : rv d = 0
  · rw [edgesQ, if_pos hd0]
    have z := eq_true'.2 (sI_zero.2 hd0)
    generalize Ψ .sI (rv d) = i1 at *
    clear s1 s2 d1 d2 sa sb
    refine rn ?_
    rfl
  have z := eq_false'.2 (mt sI_zero.1 hd0)
  rw [edgesQ, if_neg hd0]
  generalize Ψ .sI (rv d) = i1 at *
  generalize Ψ .cr (rv lo - rv o) = A1 at *
  generalize Ψ .cr (rv hi - rv o) = A2 at *
  have za := @sI_nonneg ((rv lo - rv o) / rv d)
  have zb := @sI_nonneg ((rv hi - rv o) / rv d)
  generalize (rv lo - rv o) / rv d = a at *
  generalize (rv hi - rv o) / rv d = b at *
  clear q1 q2 t1 t2
  by_cases ha : 0 ≤ a <;> by_cases hb : 0 ≤ b
  all_goals
    first | rw [if_pos ha] | rw [if_neg ha]
    first | rw [if_pos hb] | rw [if_neg hb]
    first | have za' := le_true.2 (za.2 ha) | have za' := le_false.2 (Int.not_le.1 (mt za.1 ha))
    first | have zb' := le_true.2 (zb.2 hb) | have zb' := le_false.2 (Int.not_le.1 (mt zb.1 hb))
    clear za zb
    generalize Ψ .sI a = ia at *
    generalize Ψ .sI b = ib at *
    rw [map_cr]
    simp only [List.nil_append, List.append_nil, List.map_cons, List.map_nil, List.cons_append]
    generalize Ψ .cr a = A at *
    generalize Ψ .cr b = B at *
  · refine rn ?_
    rfl
  · refine rn ?_
    rfl
  · refine rn ?_
    rfl
  · exact rn trivial

/-- the document's places at which a ray may come into a box or leave it -/
def placesQ (o d : V3) (b : B3) : List Rat := 0 :: (edgesQ o.x d.x b.lo.x b.hi.x ++ edgesQ o.y d.y b.lo.y b.hi.y ++ edgesQ o.z d.z b.lo.z b.hi.z)
def vat (o d : V3) (s : Rat) : V3 := vadd o (vmul s d)
def stepR (o d : V3) (b : B3) (acc : Option (Rat × Rat)) (x : Rat) : Option (Rat × Rat) :=
  if holds b (vat o d x) then some (match acc with | none => (x, x) | some (f, t) => (rmin f x, rmax t x)) else acc
def clipR (o d : V3) (b : B3) (l : List Rat) : Option (Rat × Rat) := l.foldl (stepR o d b) none
def spanR (o d : V3) (b : B3) : S3 := match clipR o d b (placesQ o d b) with
  | none => ⟨0, 0, false⟩
  | some (f, t) => ⟨f, t, decide (d = v0)⟩
theorem Qn_edges {o d lo hi : Rat} {k : Nat} (ho : Qn k o) (hd : Qn k d) (hlo : Qn k lo) (hhi : Qn k hi) (hk : 0 < k) : ∀ q, q ∈ edgesQ o d lo hi → Qn (3 * k + 1) q := fun q h => by
  have t1 := (Qn_div (Qn_sub hlo ho) hd hk).mono (show _ ≤ 3 * k + 1 by omega)
  have t2 := (Qn_div (Qn_sub hhi ho) hd hk).mono (show _ ≤ 3 * k + 1 by omega)
  unfold edgesQ at h
  split at h
  · cases h
  · rcases List.mem_append.1 h with h | h
    · split at h
      · rw [List.mem_singleton.1 h]; exact t1
      · cases h
    · split at h
      · rw [List.mem_singleton.1 h]; exact t2
      · cases h
theorem len_edges (o d lo hi : Rat) : (edgesQ o d lo hi).length ≤ 2 := by
  unfold edgesQ
  split
  · simp
  · split <;> split <;> simp

theorem clip10_good (o d : VL) (b : BL) {k : Nat} (ho : Vn k o) (hd : Vn k d) (hb : Bn k b) (hk : 0 < k) (hk2 : k < 2147483648) :
    Good P F.penumbraref10_Clip [.d (.agg (dV Ψ o)), .d (.agg (dV Ψ d)), .d (.agg (dB Ψ b))] [] (.tup [.d (.agg (dS Ψ (cS Ψ (spanR (vv o) (vv d) (bv b))))), .d (.b (clipR (vv o) (vv d) (bv b) (placesQ (vv o) (vv d) (bv b))).isSome)]) [] := by
  refine G.penumbraref10_Clip fun C C2 hC hC2 => ?_
  have g0 := zero3_good
  have e1 := edges10_good o.x d.x b.lo.x b.hi.x ho.x hd.x hb.lo.x hb.hi.x hk (by omega)
  have e2 := edges10_good o.y d.y b.lo.y b.hi.y ho.y hd.y hb.lo.y hb.hi.y hk (by omega)
  have e3 := edges10_good o.z d.z b.lo.z b.hi.z ho.z hd.z hb.lo.z hb.hi.z hk (by omega)
  obtain ⟨E1, hE1⟩ : ∃ E, E = edgesQ (rv o.x) (rv d.x) (rv b.lo.x) (rv b.hi.x) := ⟨_, rfl⟩
  obtain ⟨E2, hE2⟩ : ∃ E, E = edgesQ (rv o.y) (rv d.y) (rv b.lo.y) (rv b.hi.y) := ⟨_, rfl⟩
  obtain ⟨E3, hE3⟩ : ∃ E, E = edgesQ (rv o.z) (rv d.z) (rv b.lo.z) (rv b.hi.z) := ⟨_, rfl⟩
  rw [← hE1] at e1
  rw [← hE2] at e2
  rw [← hE3] at e3
  obtain ⟨M1, hM1⟩ : ∃ M, M = E1.map (Ψ .cr) := ⟨_, rfl⟩
  obtain ⟨M2, hM2⟩ : ∃ M, M = E2.map (Ψ .cr) := ⟨_, rfl⟩
  obtain ⟨M3, hM3⟩ : ∃ M, M = E3.map (Ψ .cr) := ⟨_, rfl⟩
  rw [← hM1] at e1
  rw [← hM2] at e2
  rw [← hM3] at e3
  have l1 : M1.length ≤ 2 := by rw [hM1, List.length_map, hE1]; exact len_edges _ _ _ _
  have l2 : M2.length ≤ 2 := by rw [hM2, List.length_map, hE2]; exact len_edges _ _ _ _
  have l3 : M3.length ≤ 2 := by rw [hM3, List.length_map, hE3]; exact len_edges _ _ _ _
  obtain ⟨Z, hZ⟩ : ∃ Z, Z = Ψ .cr 0 := ⟨_, rfl⟩
  rw [← hZ] at g0
  obtain ⟨L, hL⟩ : ∃ L, L = placesQ (vv o) (vv d) (bv b) := ⟨_, rfl⟩
  obtain ⟨ML, hML⟩ : ∃ M, M = L.map (Ψ .cr) := ⟨_, rfl⟩
  have hML2 : ML = [Z] ++ M1 ++ M2 ++ M3 := by rw [hML, hL, hM1, hM2, hM3, hZ, hE1, hE2, hE3]; simp [placesQ, vv, bv]
  have hlen : ML.length = L.length := by rw [hML, List.length_map]
  have hll : ML.length ≤ 7 := by rw [hML2]; simp; omega
  have hQ : ∀ q, q ∈ L → Qn (3 * k + 1) q := fun q h => by
    rw [hL, placesQ] at h
    rcases List.mem_cons.1 h with rfl | h
    · exact Qn_zero (by omega)
    · have po := Pn_vv ho hk
      have pd := Pn_vv hd hk
      have pb := Bq_bv hb hk
      rcases List.mem_append.1 h with h | h
      · rcases List.mem_append.1 h with h | h
        · exact Qn_edges po.x pd.x pb.lo.x pb.hi.x hk q h
        · exact Qn_edges po.y pd.y pb.lo.y pb.hi.y hk q h
      · exact Qn_edges po.z pd.z pb.lo.z pb.hi.z hk q h
  obtain ⟨A, hA⟩ : ∃ A : Nat → Option (Rat × Rat), A = fun i => clipR (vv o) (vv d) (bv b) (L.take i) := ⟨_, rfl⟩
  have hA0 : A 0 = none := by rw [hA]; rfl
  have hAs : ∀ i q, L[i]? = some q → A (i + 1) = stepR (vv o) (vv d) (bv b) (A i) q := fun i q hq => by
    rw [hA]; simp only [clipR, take_succ_of hq, List.foldl_append, List.foldl_cons, List.foldl_nil]
  have hAl : clipR (vv o) (vv d) (bv b) (placesQ (vv o) (vv d) (bv b)) = A L.length := by rw [hA, ← hL]; simp only [List.take_length]
  have hAq : ∀ i f t, A i = some (f, t) → Qn (3 * k + 1) f ∧ Qn (3 * k + 1) t := fun i => by
    induction i with
    | zero => intro f t h; rw [hA0] at h; cases h
    | succ i ih =>
      intro f t h
      rcases Nat.lt_or_ge i L.length with c | c
      · rw [hAs i _ (List.getElem?_eq_getElem c)] at h
        unfold stepR at h
        have hq := hQ _ (List.getElem_mem c)
        split at h
        · cases hAi : A i with
          | none => rw [hAi] at h; cases h; exact ⟨hq, hq⟩
          | some p => obtain ⟨f', t'⟩ := p; rw [hAi] at h; cases h; exact ⟨Qn_min (ih _ _ hAi).1 hq, Qn_max (ih _ _ hAi).2 hq⟩
        · exact ih f t h
      · have : A (i + 1) = A i := by rw [hA]; simp only [List.take_of_length_le c, List.take_of_length_le (show L.length ≤ i + 1 by omega)]
        rw [this] at h; exact ih f t h
  have hnull := null5_good d hd hk (by omega)
  have hres : ∀ r, A L.length = r → spanR (vv o) (vv d) (bv b) = (match r with | none => ⟨0, 0, false⟩ | some (f, t) => ⟨f, t, decide (vv d = v0)⟩) := fun r hr => by
    unfold spanR; rw [hAl, hr]
  rw [hAl]
  generalize spanR (vv o) (vv d) (bv b) = SP at *
  generalize decide (vv d = v0) = nl at *
  clear hAl hE1 hE2 hE3 hM1 hM2 hM3
  refine rn ?_
  refine LoopG.intro (σ := Nat × Option (Rat × Rat)) [3, 4, 5, 6, 8, 9, 10, 11] [1050, 1051, 1052, 1053, 1054, 1055]
    (fun x => [.ptr 1050 0, .ptr 1051 0, .ptr 1052 0, .ptr 1053 0, .own 1054 3, .ptr 1055 0, .d (.b x.2.isSome), .d (.i .i64 (Ω .ci x.1))])
    (fun x => [.var ((dV Ψ o).map V.d), .var ((dV Ψ d).map V.d), .var ((dB Ψ b).map V.d), .var [.d (.b false), .nil, .nil, .d (.b false), .nil, .nil, .d (.b false)], .row true T.api_Rat 3 (Ψ .dRs ML),
      .var ((match x.2 with | none => dS Ψ ⟨Z, Z, false⟩ | some p => dS Ψ ⟨Ψ .cr p.1, Ψ .cr p.2, false⟩).map V.d)])
    (fun x => x.1 ≤ L.length ∧ A x.1 = x.2)
    (fun x => L.length - x.1) (0, none) [1000, 1001, 1002, 1003, 1412, 1503] ⟨Nat.zero_le _, hA0⟩ ⟨rfl, rfl, ?_⟩ ?_
  · rw [hML2, ← scat_dRs, ← scat_dRs, ← scat_dRs]; rfl
  rintro ⟨i, _ | ⟨f, t⟩⟩ ⟨hi, hAi⟩
  all_goals
    simp only at hi hAi
    rcases Nat.lt_or_ge i L.length with c | c
  · obtain ⟨q, hq⟩ : ∃ q, L[i]? = some q := ⟨_, List.getElem?_eq_getElem c⟩
    have hx : Ω .sget (Ψ .dRs ML) i = some (.agg (dR Ψ (Ψ .cr q))) := by rw [sget_dRs, hML, List.getElem?_map, hq]; rfl
    have qq := hQ q (List.mem_of_getElem? hq)
    have hst := hAs i q hq
    rw [hAi] at hst
    have hlt : Ω .lt (Ω .ci i) (Ω .ci ML.length) = true := by simp only [wz]; omega
    have ga := at8_good o d (Ψ .cr q) (k := 3 * k + 1) (ho.mono (by omega)) (hd.mono (by omega)) (Rn_cr.2 qq) (by omega) (by omega)
    rw [rv_cr] at ga
    have pa : Pn (2 * (3 * k + 1) + 1 + k) (vat (vv o) (vv d) q) := (Pn_add (Pn_vv ho hk) (Pn_mul qq (Pn_vv hd hk) (by omega))).mono (by omega)
    have gh := holds10_good b (Ψ .cV (vat (vv o) (vv d) q)) (k := 2 * (3 * k + 1) + 1 + k) (hb.mono (by omega)) (Vn_cV pa) (by omega) (by omega)
    rw [vv_cV] at gh
    unfold stepR at hst
    change Good P _ _ _ (V.d (.agg (dV Ψ (Ψ .cV (vat (vv o) (vv d) q))))) _ at ga
    by_cases hh : holds (bv b) (vat (vv o) (vv d) q)
    · rw [decide_eq_true hh] at gh
      rw [if_pos hh] at hst
      have gmin := min10_good (Ψ .cr q) (Ψ .cr q) (Rn_cr.2 qq) (Rn_cr.2 qq) (by omega) (by omega)
      have gmax := max10_good (Ψ .cr q) (Ψ .cr q) (Rn_cr.2 qq) (Rn_cr.2 qq) (by omega) (by omega)
      rw [rmin_self, rv_cr] at gmin
      rw [rmax_self, rv_cr] at gmax
      refine rn ?_
      refine ⟨(i + 1, some (q, q)), [1050, 1051, 1052, 1053, 1054, 1055], ⟨c, hst⟩, by simp only; omega, rfl, ?_, rfl⟩
      refine Eq.trans (b := [.ptr 1050 0, .ptr 1051 0, .ptr 1052 0, .ptr 1053 0, .own 1054 3, .ptr 1055 0, .d (.b true), .d (.i .i64 _)]) rfl ?_
      rw [wrap_succ (by omega)]; rfl
    · rw [decide_eq_false hh] at gh
      rw [if_neg hh] at hst
      refine rn ?_
      refine ⟨(i + 1, none), [1050, 1051, 1052, 1053, 1054, 1055], ⟨c, hst⟩, by simp only; omega, rfl, ?_, rfl⟩
      refine Eq.trans (b := [.ptr 1050 0, .ptr 1051 0, .ptr 1052 0, .ptr 1053 0, .own 1054 3, .ptr 1055 0, .d (.b false), .d (.i .i64 _)]) rfl ?_
      rw [wrap_succ (by omega)]; rfl
  · have hlt : Ω .lt (Ω .ci i) (Ω .ci ML.length) = false := by simp only [wz]; omega
    have hr := hres none (by rw [← hAi]; congr 1; omega)
    simp only at hr
    rw [show A L.length = none by rw [← hAi]; congr 1; omega, hr]
    refine rn ?_
    rw [hZ]
  · obtain ⟨q, hq⟩ : ∃ q, L[i]? = some q := ⟨_, List.getElem?_eq_getElem c⟩
    have hx : Ω .sget (Ψ .dRs ML) i = some (.agg (dR Ψ (Ψ .cr q))) := by rw [sget_dRs, hML, List.getElem?_map, hq]; rfl
    have qq := hQ q (List.mem_of_getElem? hq)
    have hst := hAs i q hq
    rw [hAi] at hst
    have hlt : Ω .lt (Ω .ci i) (Ω .ci ML.length) = true := by simp only [wz]; omega
    have ga := at8_good o d (Ψ .cr q) (k := 3 * k + 1) (ho.mono (by omega)) (hd.mono (by omega)) (Rn_cr.2 qq) (by omega) (by omega)
    rw [rv_cr] at ga
    have pa : Pn (2 * (3 * k + 1) + 1 + k) (vat (vv o) (vv d) q) := (Pn_add (Pn_vv ho hk) (Pn_mul qq (Pn_vv hd hk) (by omega))).mono (by omega)
    have gh := holds10_good b (Ψ .cV (vat (vv o) (vv d) q)) (k := 2 * (3 * k + 1) + 1 + k) (hb.mono (by omega)) (Vn_cV pa) (by omega) (by omega)
    rw [vv_cV] at gh
    unfold stepR at hst
    change Good P _ _ _ (V.d (.agg (dV Ψ (Ψ .cV (vat (vv o) (vv d) q))))) _ at ga
    have qf := hAq i f t hAi
    by_cases hh : holds (bv b) (vat (vv o) (vv d) q)
    · rw [decide_eq_true hh] at gh
      rw [if_pos hh] at hst
      have gmin := min10_good (Ψ .cr f) (Ψ .cr q) (Rn_cr.2 qf.1) (Rn_cr.2 qq) (by omega) (by omega)
      have gmax := max10_good (Ψ .cr t) (Ψ .cr q) (Rn_cr.2 qf.2) (Rn_cr.2 qq) (by omega) (by omega)
      rw [rv_cr, rv_cr] at gmin gmax
      refine rn ?_
      refine ⟨(i + 1, some (rmin f q, rmax t q)), [1050, 1051, 1052, 1053, 1054, 1055], ⟨c, hst⟩, by simp only; omega, rfl, ?_, rfl⟩
      refine Eq.trans (b := [.ptr 1050 0, .ptr 1051 0, .ptr 1052 0, .ptr 1053 0, .own 1054 3, .ptr 1055 0, .d (.b true), .d (.i .i64 _)]) rfl ?_
      rw [wrap_succ (by omega)]; rfl
    · rw [decide_eq_false hh] at gh
      rw [if_neg hh] at hst
      refine rn ?_
      refine ⟨(i + 1, some (f, t)), [1050, 1051, 1052, 1053, 1054, 1055], ⟨c, hst⟩, by simp only; omega, rfl, ?_, rfl⟩
      refine Eq.trans (b := [.ptr 1050 0, .ptr 1051 0, .ptr 1052 0, .ptr 1053 0, .own 1054 3, .ptr 1055 0, .d (.b true), .d (.i .i64 _)]) rfl ?_
      rw [wrap_succ (by omega)]; rfl
  · have hlt : Ω .lt (Ω .ci i) (Ω .ci ML.length) = false := by simp only [wz]; omega
    have hr := hres (some (f, t)) (by rw [← hAi]; congr 1; omega)
    simp only at hr
    rw [show A L.length = some (f, t) by rw [← hAi]; congr 1; omega, hr]
    cases nl
    · exact rn trivial
    · exact rn trivial
end Go.K.S
end
section
/-
  The plain law of boxes: which part of a ray lies within a box, by the program's way and by the document's.
-/
namespace Go.K
open Go Go.K.S
set_option linter.unusedVariables false

theorem rmax_le {a b t : Rat} : rmax a b ≤ t ↔ a ≤ t ∧ b ≤ t := by unfold rmax; split <;> grind
theorem le_rmin {a b t : Rat} : t ≤ rmin a b ↔ t ≤ a ∧ t ≤ b := by unfold rmin; split <;> grind
theorem le_rmax_left (a b : Rat) : a ≤ rmax a b := by unfold rmax; split <;> grind
theorem rmax_or (a b : Rat) : rmax a b = a ∨ rmax a b = b := by unfold rmax; split <;> simp
theorem rmin_or (a b : Rat) : rmin a b = a ∨ rmin a b = b := by unfold rmin; split <;> simp

theorem div_mul_self' {a b : Rat} (h : b ≠ 0) : a / b * b = a := by grind
theorem mul_le_iff {a b c : Rat} (hc : 0 < c) : a * c ≤ b * c ↔ a ≤ b :=
  ⟨fun h => Rat.le_of_mul_le_mul_right h hc, fun h => Rat.mul_le_mul_of_nonneg_right h (by grind)⟩
/-- one axis -/
theorem axis {o d lo hi : Rat} (hd : d ≠ 0) (t : Rat) : btw (o + t * d) lo hi ↔ nearR o d lo hi ≤ t ∧ t ≤ farR o d lo hi := by
  have e1 : (lo - o) / d * d = lo - o := div_mul_self' hd
  have e2 : (hi - o) / d * d = hi - o := div_mul_self' hd
  unfold btw nearR farR
  generalize (lo - o) / d = x at *
  generalize (hi - o) / d = y at *
  rcases (show d < 0 ∨ 0 < d by grind) with h | h
  · rw [if_pos h, if_pos h]
    have hn : 0 < -d := by grind
    have a1 := mul_le_iff (a := y) (b := t) hn
    have a2 := mul_le_iff (a := t) (b := x) hn
    rw [← a1, ← a2]
    constructor
    · intro h; constructor <;> grind
    · intro h; constructor <;> grind
  · rw [if_neg (by grind), if_neg (by grind)]
    have a1 := mul_le_iff (a := x) (b := t) h
    have a2 := mul_le_iff (a := t) (b := y) h
    rw [← a1, ← a2]
    constructor
    · intro h; constructor <;> grind
    · intro h; constructor <;> grind
def edge (o d : V3) (b : B3) (j : Nat) (x : Rat) : Prop := axV d j ≠ 0 ∧ (x = (axV b.lo j - axV o j) / axV d j ∨ x = (axV b.hi j - axV o j) / axV d j)
theorem edge_near {o d : V3} {b : B3} {j : Nat} (h : axV d j ≠ 0) : edge o d b j (nearR (axV o j) (axV d j) (axV b.lo j) (axV b.hi j)) := by
  refine ⟨h, ?_⟩; unfold nearR; split <;> simp
theorem edge_far {o d : V3} {b : B3} {j : Nat} (h : axV d j ≠ 0) : edge o d b j (farR (axV o j) (axV d j) (axV b.lo j) (axV b.hi j)) := by
  refine ⟨h, ?_⟩; unfold farR; split <;> simp
theorem mem_edgesQ {o d lo hi x : Rat} : x ∈ edgesQ o d lo hi ↔ d ≠ 0 ∧ 0 ≤ x ∧ (x = (lo - o) / d ∨ x = (hi - o) / d) := by
  unfold edgesQ
  split
  · rename_i h; simp [h]
  · rename_i h
    rw [List.mem_append]
    generalize (lo - o) / d = a
    generalize (hi - o) / d = b
    by_cases ha : 0 ≤ a <;> by_cases hb : 0 ≤ b <;> simp only [ha, hb, if_true, if_false, List.mem_singleton, List.not_mem_nil, or_false, false_or] <;> constructor <;> intro q
    · exact ⟨h, by rcases q with rfl | rfl <;> assumption, q⟩
    · exact q.2.2
    · exact ⟨h, by subst q; assumption, .inl q⟩
    · rcases q.2.2 with r | r
      · exact r
      · subst r; exact absurd q.2.1 hb
    · exact ⟨h, by subst q; assumption, .inr q⟩
    · rcases q.2.2 with r | r
      · subst r; exact absurd q.2.1 ha
      · exact r
    · exact q.elim
    · rcases q.2.2 with r | r
      · subst r; exact absurd q.2.1 ha
      · subst r; exact absurd q.2.1 hb
theorem mem_placesQ {o d : V3} {b : B3} {x : Rat} : x ∈ placesQ o d b ↔ x = 0 ∨ (0 ≤ x ∧ ∃ j, j < 3 ∧ edge o d b j x) := by
  unfold placesQ
  rw [List.mem_cons, List.mem_append, List.mem_append, mem_edgesQ, mem_edgesQ, mem_edgesQ]
  constructor
  · rintro (h | (h | h) | h)
    · exact .inl h
    · exact .inr ⟨h.2.1, 0, by omega, h.1, h.2.2⟩
    · exact .inr ⟨h.2.1, 1, by omega, h.1, h.2.2⟩
    · exact .inr ⟨h.2.1, 2, by omega, h.1, h.2.2⟩
  · rintro (h | ⟨h0, j, hj, h1, h2⟩)
    · exact .inl h
    · have : j = 0 ∨ j = 1 ∨ j = 2 := by omega
      rcases this with rfl | rfl | rfl
      · exact .inr (.inl (.inl ⟨h1, h0, h2⟩))
      · exact .inr (.inl (.inr ⟨h1, h0, h2⟩))
      · exact .inr (.inr ⟨h1, h0, h2⟩)
theorem places_nonneg {o d : V3} {b : B3} {x : Rat} (h : x ∈ placesQ o d b) : 0 ≤ x := by
  rcases mem_placesQ.1 h with rfl | h
  · exact Rat.le_refl
  · exact h.1
def inN (o d : V3) (b : B3) (i : Nat) (t : Rat) : Prop := ∀ j, j < i → btw (axV o j + t * axV d j) (axV b.lo j) (axV b.hi j)
theorem inN_succ {o d : V3} {b : B3} {i : Nat} {t : Rat} : inN o d b (i + 1) t ↔ inN o d b i t ∧ btw (axV o i + t * axV d i) (axV b.lo i) (axV b.hi i) :=
  ⟨fun h => ⟨fun j hj => h j (by omega), h i (by omega)⟩, fun h j hj => by
    rcases Nat.lt_or_ge j i with c | c
    · exact h.1 j c
    · obtain rfl : j = i := by omega
      exact h.2⟩
theorem holds_inN {o d : V3} {b : B3} {t : Rat} : holds b (vat o d t) ↔ inN o d b 3 t :=
  ⟨fun h j hj => by
    have : j = 0 ∨ j = 1 ∨ j = 2 := by omega
    rcases this with rfl | rfl | rfl
    · exact h.1
    · exact h.2.1
    · exact h.2.2, fun h => ⟨h 0 (by omega), h 1 (by omega), h 2 (by omega)⟩⟩
/-- what the program's state says after some axes -/
structure ClipI (o d : V3) (b : B3) (i : Nat) (s : S3) : Prop where
  mem : ∀ t, 0 ≤ t → (inN o d b i t ↔ s.from' ≤ t ∧ (s.op = true ∨ t ≤ s.to'))
  f0 : 0 ≤ s.from'
  fe : s.from' = 0 ∨ ∃ j, j < i ∧ edge o d b j s.from'
  te : s.op = false → ∃ j, j < i ∧ edge o d b j s.to'
  op : s.op = true ↔ ∀ j, j < i → axV d j = 0
  oz : s.op = true → s.from' = 0 ∧ s.to' = 0
theorem clipI {o d : V3} {b : B3} : ∀ i, match clipN o d b i with
    | none => ∀ t, ¬ inN o d b i t
    | some s => ClipI o d b i s
  | 0 => ⟨fun t ht => ⟨fun _ => ⟨ht, .inl rfl⟩, fun _ j hj => absurd hj (Nat.not_lt_zero _)⟩, Rat.le_refl, .inl rfl, fun h => Bool.noConfusion h, ⟨fun _ j hj => absurd hj (Nat.not_lt_zero _), fun _ => rfl⟩, fun _ => ⟨rfl, rfl⟩⟩
  | i + 1 => by
    have ih := clipI (o := o) (d := d) (b := b) i
    unfold clipN
    cases hN : clipN o d b i with
    | none =>
      rw [hN] at ih
      exact fun t h => ih t (inN_succ.1 h).1
    | some s =>
      rw [hN] at ih
      simp only at ih
      simp only [Option.bind_some, clip1]
      by_cases hd : axV d i = 0
      · rw [if_pos hd]
        have e : ∀ t : Rat, axV o i + t * axV d i = axV o i := fun t => by rw [hd, Rat.mul_zero, Rat.add_zero]
        by_cases c : axV o i < axV b.lo i ∨ axV b.hi i < axV o i
        · rw [if_pos c]
          intro t h
          have := (inN_succ.1 h).2
          rw [e] at this
          unfold btw at this
          grind
        · rw [if_neg c]
          have hb : ∀ t : Rat, btw (axV o i + t * axV d i) (axV b.lo i) (axV b.hi i) := fun t => by rw [e]; unfold btw; grind
          refine ⟨fun t ht => ?_, ih.f0, ?_, ?_, ?_, ih.oz⟩
          · rw [inN_succ, ← ih.mem t ht]
            exact ⟨fun h => h.1, fun h => ⟨h, hb t⟩⟩
          · rcases ih.fe with h | ⟨j, hj, h⟩
            · exact .inl h
            · exact .inr ⟨j, by omega, h⟩
          · intro h
            obtain ⟨j, hj, h⟩ := ih.te h
            exact ⟨j, by omega, h⟩
          · rw [ih.op]
            constructor
            · intro h j hj
              rcases Nat.lt_or_ge j i with c | c
              · exact h j c
              · obtain rfl : j = i := by omega
                exact hd
            · exact fun h j hj => h j (by omega)
      · rw [if_neg hd]
        have ax := fun t => axis (o := axV o i) (lo := axV b.lo i) (hi := axV b.hi i) hd t
        have en := edge_near (o := o) (b := b) hd
        have ef := edge_far (o := o) (b := b) hd
        generalize nearR (axV o i) (axV d i) (axV b.lo i) (axV b.hi i) = nn at *
        generalize farR (axV o i) (axV d i) (axV b.lo i) (axV b.hi i) = ff at *
        refine ⟨fun t ht => ?_, ?_, ?_, fun _ => ?_, ?_, fun h => Bool.noConfusion h⟩
        · rw [inN_succ, ih.mem t ht, ax t, rmax_le, le_rmin]
          cases s.op <;> simp <;> grind
        · have := le_rmax_left s.from' nn
          have := ih.f0
          simp only; grind
        · rcases rmax_or s.from' nn with h | h
          · simp only [h]
            rcases ih.fe with h | ⟨j, hj, h⟩
            · exact .inl h
            · exact .inr ⟨j, by omega, h⟩
          · simp only [h]
            exact .inr ⟨i, by omega, en⟩
        · cases ho : s.op with
          | true => simp only [if_true]; rcases rmin_or ff ff with h | h <;> simp only [h] <;> exact ⟨i, by omega, ef⟩
          | false =>
            simp only [Bool.false_eq_true, if_false]
            rcases rmin_or s.to' ff with h | h <;> simp only [h]
            · obtain ⟨j, hj, h⟩ := ih.te ho
              exact ⟨j, by omega, h⟩
            · exact ⟨i, by omega, ef⟩
        · simp only [Bool.false_eq_true, false_iff]
          exact fun h => hd (h i (by omega))
theorem clipR_snoc (o d : V3) (b : B3) (l : List Rat) (x : Rat) : clipR o d b (l ++ [x]) = stepR o d b (clipR o d b l) x := by simp [clipR]
/-- what the document's way comes to -/
theorem clipR_says {o d : V3} {b : B3} (l : List Rat) : match clipR o d b l with
    | none => ∀ x, x ∈ l → ¬ holds b (vat o d x)
    | some (f, t) => (f ∈ l ∧ holds b (vat o d f)) ∧ (t ∈ l ∧ holds b (vat o d t)) ∧ ∀ x, x ∈ l → holds b (vat o d x) → f ≤ x ∧ x ≤ t := by
  obtain ⟨n, hn⟩ : ∃ n, n = l.length := ⟨_, rfl⟩
  induction n generalizing l with
  | zero => rw [List.eq_nil_of_length_eq_zero hn.symm]; exact fun x hx => by cases hx
  | succ n ih =>
    rcases List.eq_nil_or_concat l with rfl | ⟨m, y, rfl⟩
    · cases hn
    · have im := ih m (by simp at hn; omega)
      rw [List.concat_eq_append, clipR_snoc]
      unfold stepR
      by_cases h : holds b (vat o d y)
      · rw [if_pos h]
        cases hm : clipR o d b m with
        | none =>
          rw [hm] at im
          simp only at im ⊢
          refine ⟨⟨by simp, h⟩, ⟨by simp, h⟩, fun x hx hh => ?_⟩
          rcases List.mem_append.1 hx with q | q
          · exact absurd hh (im x q)
          · rw [List.mem_singleton.1 q]; exact ⟨Rat.le_refl, Rat.le_refl⟩
        | some p =>
          obtain ⟨f, t⟩ := p
          rw [hm] at im
          simp only at im ⊢
          obtain ⟨h1, h2, h3⟩ := im
          refine ⟨?_, ?_, fun x hx hh => ?_⟩
          · rcases rmin_or f y with q | q <;> rw [q]
            · exact ⟨List.mem_append_left _ h1.1, h1.2⟩
            · exact ⟨by simp, h⟩
          · rcases rmax_or t y with q | q <;> rw [q]
            · exact ⟨List.mem_append_left _ h2.1, h2.2⟩
            · exact ⟨by simp, h⟩
          · have a1 : rmin f y ≤ f ∧ rmin f y ≤ y := by unfold rmin; split <;> grind
            have a2 : t ≤ rmax t y ∧ y ≤ rmax t y := by unfold rmax; split <;> grind
            rcases List.mem_append.1 hx with q | q
            · have := h3 x q hh
              constructor <;> grind
            · rw [List.mem_singleton.1 q]
              exact ⟨a1.2, a2.2⟩
      · rw [if_neg h]
        cases hm : clipR o d b m with
        | none =>
          rw [hm] at im
          simp only at im ⊢
          intro x hx
          rcases List.mem_append.1 hx with q | q
          · exact im x q
          · rw [List.mem_singleton.1 q]; exact h
        | some p =>
          obtain ⟨f, t⟩ := p
          rw [hm] at im
          simp only at im ⊢
          obtain ⟨h1, h2, h3⟩ := im
          refine ⟨⟨List.mem_append_left _ h1.1, h1.2⟩, ⟨List.mem_append_left _ h2.1, h2.2⟩, fun x hx hh => ?_⟩
          rcases List.mem_append.1 hx with q | q
          · exact h3 x q hh
          · rw [List.mem_singleton.1 q] at hh; exact absurd hh h
/-- THE PLAIN LAW -/
theorem clip_law (o d : V3) (b : B3) : spanR o d b = clipS o d b ∧ (clipR o d b (placesQ o d b)).isSome = clipOk o d b := by
  have hi := clipI (o := o) (d := d) (b := b) 3
  have hr := clipR_says (o := o) (d := d) (b := b) (placesQ o d b)
  unfold spanR clipS clipOk clipP
  cases hN : clipN o d b 3 with
  | none =>
    rw [hN] at hi
    simp only at hi
    cases hR : clipR o d b (placesQ o d b) with
    | none => exact ⟨rfl, rfl⟩
    | some p =>
      obtain ⟨f, t⟩ := p
      rw [hR] at hr
      exact absurd (holds_inN.1 hr.1.2) (hi f)
  | some s =>
    rw [hN] at hi
    simp only at hi
    simp only [Option.bind_some]
    have p0 : (0 : Rat) ∈ placesQ o d b := mem_placesQ.2 (.inl rfl)
    cases ho : s.op with
    | true =>
      have hz := hi.oz ho
      have hd : d = v0 := by
        have h := hi.op.1 ho
        exact V3.ext_iff'.2 ⟨h 0 (by omega), h 1 (by omega), h 2 (by omega)⟩
      have h0 : holds b (vat o d 0) := holds_inN.2 ((hi.mem 0 Rat.le_refl).2 ⟨by rw [hz.1]; exact Rat.le_refl, .inl ho⟩)
      have all0 : ∀ x, x ∈ placesQ o d b → x = 0 := fun x hx => by
        rcases mem_placesQ.1 hx with h | ⟨_, j, hj, h, _⟩
        · exact h
        · exact absurd (hi.op.1 ho j hj) h
      simp only [Bool.true_eq_false, false_and, if_false]
      cases hR : clipR o d b (placesQ o d b) with
      | none => rw [hR] at hr; exact absurd h0 (hr 0 p0)
      | some p =>
        obtain ⟨f, t⟩ := p
        rw [hR] at hr
        simp only at hr ⊢
        refine ⟨?_, rfl⟩
        rw [all0 f hr.1.1, all0 t hr.2.1.1, decide_eq_true hd]
        refine S3.ext_iff'.2 ⟨hz.1.symm, hz.2.symm, ho.symm⟩
    | false =>
      have hm : ∀ t, 0 ≤ t → (holds b (vat o d t) ↔ s.from' ≤ t ∧ t ≤ s.to') := fun t ht => by
        rw [holds_inN, hi.mem t ht, ho]; simp
      have hd : ¬ d = v0 := fun h => by
        have := hi.op.2 (fun j hj => by
          have : j = 0 ∨ j = 1 ∨ j = 2 := by omega
          rcases this with rfl | rfl | rfl <;> rw [h] <;> rfl)
        rw [ho] at this; cases this
      by_cases hlt : s.to' < s.from'
      · rw [if_pos ⟨rfl, hlt⟩]
        cases hR : clipR o d b (placesQ o d b) with
        | none => exact ⟨rfl, rfl⟩
        | some p =>
          obtain ⟨f, t⟩ := p
          rw [hR] at hr
          have := (hm f (places_nonneg hr.1.1)).1 hr.1.2
          grind
      · rw [if_neg (fun q => hlt q.2)]
        have hle : s.from' ≤ s.to' := by grind
        have f0 := hi.f0
        have t0 : 0 ≤ s.to' := by grind
        have pf : s.from' ∈ placesQ o d b := mem_placesQ.2 (by
          rcases hi.fe with h | ⟨j, hj, h⟩
          · exact .inl h
          · exact .inr ⟨f0, j, hj, h⟩)
        have pt : s.to' ∈ placesQ o d b := mem_placesQ.2 (by
          obtain ⟨j, hj, h⟩ := hi.te ho
          exact .inr ⟨t0, j, hj, h⟩)
        have hf : holds b (vat o d s.from') := (hm _ f0).2 ⟨Rat.le_refl, hle⟩
        have ht : holds b (vat o d s.to') := (hm _ t0).2 ⟨hle, Rat.le_refl⟩
        cases hR : clipR o d b (placesQ o d b) with
        | none => rw [hR] at hr; exact absurd hf (hr _ pf)
        | some p =>
          obtain ⟨f, t⟩ := p
          rw [hR] at hr
          simp only at hr ⊢
          refine ⟨?_, rfl⟩
          have a1 := hr.2.2 _ pf hf
          have a2 := hr.2.2 _ pt ht
          have a3 := (hm f (places_nonneg hr.1.1)).1 hr.1.2
          have a4 := (hm t (places_nonneg hr.2.1.1)).1 hr.2.1.2
          refine S3.ext_iff'.2 ⟨?_, ?_, ?_⟩
          · simp only [Option.getD_some]; grind
          · simp only [Option.getD_some]; grind
          · simp only [Option.getD_some, ho, decide_eq_false hd]
end Go.K
end
section
/-
  The law BoxesClip, as a contract.
-/
namespace Go.K.S
open Go Go.K
set_option maxHeartbeats 8000000
set_option maxRecDepth 20000
set_option linter.unusedVariables false
set_option linter.unusedSimpArgs false

theorem Sn_spanR {o d : VL} {b : BL} {k : Nat} (ho : Vn k o) (hd : Vn k d) (hb : Bn k b) (hk : 0 < k) : Sn (3 * k + 1) (spanR (vv o) (vv d) (bv b)) := by
  have hr := clipR_says (o := vv o) (d := vv d) (b := bv b) (placesQ (vv o) (vv d) (bv b))
  have hq : ∀ x, x ∈ placesQ (vv o) (vv d) (bv b) → Qn (3 * k + 1) x := fun q h => by
    rw [placesQ] at h
    rcases List.mem_cons.1 h with rfl | h
    · exact Qn_zero (by omega)
    · have po := Pn_vv ho hk
      have pd := Pn_vv hd hk
      have pb := Bq_bv hb hk
      rcases List.mem_append.1 h with h | h
      · rcases List.mem_append.1 h with h | h
        · exact Qn_edges po.x pd.x pb.lo.x pb.hi.x hk q h
        · exact Qn_edges po.y pd.y pb.lo.y pb.hi.y hk q h
      · exact Qn_edges po.z pd.z pb.lo.z pb.hi.z hk q h
  unfold spanR
  cases hR : clipR (vv o) (vv d) (bv b) (placesQ (vv o) (vv d) (bv b)) with
  | none => exact ⟨Qn_zero (by omega), Qn_zero (by omega)⟩
  | some p =>
    obtain ⟨f, t⟩ := p
    rw [hR] at hr
    exact ⟨hq _ hr.1.1, hq _ hr.2.1.1⟩

theorem boxesClip_good (o d : VL) (b : BL) (ho : Vn 1048576 o) (hd : Vn 1048576 d) (hb : Bn 1048576 b) :
    Good P F.penumbralaw10_BoxesClip [.d (.agg (dV Ψ o)), .d (.agg (dV Ψ d)), .d (.agg (dB Ψ b))] [] (.d (.b true)) [] := by
  refine G.penumbralaw10_BoxesClip fun C C2 hC hC2 => ?_
  have gf := fixed10_good
  have g1 := clip_good o d b ho hd hb (by omega) (by omega)
  have g2 := clip10_good o d b ho hd hb (by omega) (by omega)
  have law := clip_law (vv o) (vv d) (bv b)
  have sn := Sn_spanR ho hd hb (by omega)
  rw [law.2] at g2
  rw [law.1] at g2 sn
  have g3 := isspan_good (cS Ψ (clipS (vv o) (vv d) (bv b))) (cS Ψ (clipS (vv o) (vv d) (bv b))) (Rn_cr.2 sn.f) (Rn_cr.2 sn.t) (Rn_cr.2 sn.f) (Rn_cr.2 sn.t) (by omega) (by omega)
  rw [decide_eq_true rfl] at g3
  have g4 := holds_good b o hb ho (by omega)
  have g5 := holds10_good b o hb ho (by omega) (by omega)
  generalize clipS (vv o) (vv d) (bv b) = s at *
  generalize clipOk (vv o) (vv d) (bv b) = ok at *
  generalize decide (holds (bv b) (vv o)) = hh at *
  clear sn law
  cases ok <;> cases hh
  all_goals exact rn trivial
end Go.K.S
end
