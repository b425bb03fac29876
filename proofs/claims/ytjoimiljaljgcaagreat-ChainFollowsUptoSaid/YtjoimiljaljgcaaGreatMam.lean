/-
  Parts of the proof, joined by a program of this work: KBvh4, KBvh5, KTrace5, KSqrtP, KRoot, KCd, KAffS, KScene, KRoot2, KUnit, KScene2, KScene4, KRef12.
-/
import Derived.Test.YtjoimiljaljgcaaGreatMal
import Derived.Test.YtjoimiljaljgcaaGreatMah
import Derived.Test.YtjoimiljaljgcaaGreatMaj
import Derived.Test.YtjoimiljaljgcaaGreatMai
import Derived.Test.YtjoimiljaljgcaaGreatMak
set_option linter.unusedSimpArgs false
set_option linter.unusedVariables false
section
namespace Go.K
open Go
structure NF (N : List NodeL → List D) : Prop where
  get : ∀ (l : List NodeL) (i : Nat) n, l[i]? = some n → Ω .sget (N l) i = some (.agg (dNode Ψ n))
  len : ∀ l, Ω .slen (N l) = l.length
  cat : ∀ l n, Ω .scat (N l) [.agg (dNode Ψ n)] = N (l ++ [n])
  set : ∀ l i n, Ω .sset (N l) i (.agg (dNode Ψ n)) = N (l.set i n)
theorem slen_sset (xs : List D) (k : Nat) (y : D) : Ω .slen (Ω .sset xs k y) = Ω .slen xs := by simp [w_slen, w_sset]
theorem set_last {α : Type} (l : List α) (a b : α) : (l ++ [a]).set l.length b = l ++ [b] := by
  rw [List.set_append_right _ _ (Nat.le_refl _), Nat.sub_self]; rfl
theorem nodesD_ok : NF nodesD where
  get := fun l i n h => by simp [nodesD, w_sget, h]
  len := nodesD_len
  cat := fun l n => (nodesD_snoc l n).symm
  set := fun l i n => by simp [nodesD, w_sset, List.map_set]
end Go.K
namespace Go.K.S
open Go Go.K
set_option maxHeartbeats 8000000
set_option maxRecDepth 20000
theorem bxT_n {k : Nat} {t : TL} (ht : Tn k t) (hk : 0 < k) : Bn k (bxT t) := Bn_cB (Bq_joins hk _ (fun b hb => by
  obtain ⟨v, hv, rfl⟩ := List.mem_map.1 hb
  simp only [List.mem_cons, List.not_mem_nil, or_false] at hv
  rcases hv with rfl | rfl | rfl
  · exact ⟨ht.a, ht.a⟩
  · exact ⟨ht.b, ht.b⟩
  · exact ⟨ht.c, ht.c⟩))
theorem bnode_good {m : Nat → VL} {tris : List TL} {TD AT : List D} {k : Nat} (hT : ∀ (i : Nat) t, tris[i]? = some t → Ω .sget TD i = some (.agg (dT Ψ t))) (hA : ∀ i, i < tris.length → Ω .sget AT i = some (.agg (dV Ψ (m i))))
    (ht : ∀ t, t ∈ tris → Tn k t) (hm : ∀ i, Vn k (m i)) (hk : 0 < k) (hk2 : k < 134217728) : ∀ (g f c : Nat) (s : BS), c ≤ g → 0 < c → f + c ≤ s.order.length → s.order.Nodup → (∀ i, i ∈ s.order → i < tris.length) → s.order.length < 100000 → s.nodes.length + 2 * c < 400000 →
    Good P F.P_bvh_builder_node [.ptr 0 0, .d (.i .i64 (Ω .ci f)), .d (.i .i64 (Ω .ci c))] [.var (bcell Ψ (.own 1 22) (.own 2 1) (.own 3 9) TD), .row true T.api_Node 22 (nodesD s.nodes), .row true T.int 1 (oD s.order), .row true T.api_Vec 9 AT]
      (.d (.i .i64 (Ω .ci s.nodes.length))) [.var (bcell Ψ (.own 4 22) (.own 2 1) (.own 3 9) TD), .dead, .row true T.int 1 (oD (nodeS m tris g f c s).order), .row true T.api_Vec 9 AT, .row true T.api_Node 22 (nodesD (nodeS m tris g f c s).nodes)]
  | 0, f, c, s, h1, h2, _, _, _, _, _ => by omega
  | g + 1, f, c, ⟨nodes, order⟩, hg, hc, hfc, hnd, hov, hos, hns => by
    refine G.P_bvh_builder_node (hb := of_decide_eq_true rfl) fun C C2 hC hC2 => ?_
    simp only at hfc hnd hov hos hns
    obtain ⟨s', hs'⟩ : ∃ s', s' = nodeS m tris (g + 1) f c ⟨nodes, order⟩ := ⟨_, rfl⟩
    rw [← hs']
    rw [nodeS] at hs'
    simp only at hs'
    have hbx : ∀ b, b ∈ ((order.drop f).take c).map (fun i => bxT (tlAt tris i)) → Bn k b := fun b hb => by
      obtain ⟨i, hi, rfl⟩ := List.mem_map.1 hb
      have hil := hov i (List.mem_of_mem_drop (List.mem_of_mem_take hi))
      have e : tlAt tris i = tris[i] := by unfold tlAt; rw [List.getElem?_eq_getElem hil]; rfl
      rw [e]
      exact bxT_n (ht _ (List.getElem_mem hil)) hk
    have hJ : Bn k (joinT tris ((order.drop f).take c)) := Bn_cB (Bq_joins hk _ hbx)
    have gj := join_good (((order.drop f).take c).map fun i => bxT (tlAt tris i)) (k := k) hbx (by rw [List.length_map, List.length_take, List.length_drop]; omega) hk (by omega)
    have eJ : Ψ .cB (bjoins (((order.drop f).take c).map fun i => bxT (tlAt tris i))) = joinT tris ((order.drop f).take c) := rfl
    rw [eJ] at gj
    generalize hJJ : joinT tris ((order.drop f).take c) = J at *
    have hst : ∀ j i, j < c → order[f + j]? = some i → ((order.drop f).take (j + 1)).map (fun i => bxT (tlAt tris i)) = ((order.drop f).take j).map (fun i => bxT (tlAt tris i)) ++ [bxT (tlAt tris i)] := fun j i hj hi => by
      rw [take_succ_of (l := order.drop f) (i := j) (x := i) (by rw [List.getElem?_drop]; exact hi)]; simp
    have hz : ((order.drop f).take 0).map (fun i => bxT (tlAt tris i)) = [] := rfl
    have hlen : ∀ j, j ≤ c → (((order.drop f).take j).map (fun i => bxT (tlAt tris i))).length = j := fun j hj => by simp; omega
    obtain ⟨S, hS⟩ : ∃ S : Nat → List BL, S = fun j => ((order.drop f).take j).map (fun i => bxT (tlAt tris i)) := ⟨_, rfl⟩
    have hSe : ∀ j, ((order.drop f).take j).map (fun i => bxT (tlAt tris i)) = S j := fun j => by rw [hS]
    simp only [hSe] at hst hz hlen gj
    clear hSe hS
    have hoF := oD_ok
    have hnF := nodesD_ok
    have hel : ∀ j, j < c → ∃ i, order[f + j]? = some i ∧ Ω .sget (oD order) (Ω .nadd f j) = some (.i .i64 (Ω .ci i)) ∧ Ω .sget TD i = some (.agg (dT Ψ (tlAt tris i))) ∧ Good P F.bvh_around [.d (.agg (dT Ψ (tlAt tris i)))] [] (.d (.agg (dB Ψ (bxT (tlAt tris i))))) [] := fun j hj => by
      obtain ⟨i, hi⟩ : ∃ i, order[f + j]? = some i := ⟨_, List.getElem?_eq_getElem (by omega)⟩
      have hil := hov i (List.mem_of_getElem? hi)
      obtain ⟨t, htr⟩ : ∃ t, tris[i]? = some t := ⟨_, List.getElem?_eq_getElem hil⟩
      have e : tlAt tris i = t := by unfold tlAt; rw [htr]; rfl
      exact ⟨i, hi, hoF.get _ _ _ hi, (by rw [e]; exact hT _ _ htr), (by rw [e]; exact taround_good t (ht t (List.mem_of_getElem? htr)) hk (by omega))⟩
    have hw : Ω .wrap .i64 (Ω .ci f + Ω .ci c) = Ω .ci (f + c) := by rw [wrap_add (by omega)]
    have hol := hoF.len order
    have hnl := hnF.len nodes
    have e1 : Ω .nsub (f + c) f = c := by simp only [wz]; omega
    have hrec : 4 < c → ∃ (al : Int) (s2 s3 s4 : BS), s' = ⟨s4.nodes.set nodes.length ⟨J, Ω .ci (nodes.length + 1), Ω .ci s3.nodes.length, 0, 0⟩, s4.order⟩ ∧
        Good P F.P_bvh_builder_widest [.ptr 0 0, .d (.i .i64 (Ω .ci f)), .d (.i .i64 (Ω .ci c))] [.var (bcell Ψ (.own 1 22) (.own 2 1) (.own 3 9) TD), .row true T.api_Node 22 (Ω .scat (nodesD nodes) [.agg (dNode Ψ ⟨J, 0, 0, 0, 0⟩)]), .row true T.int 1 (oD order), .row true T.api_Vec 9 AT]
          (.d (.i .i64 al)) [.var (bcell Ψ (.own 1 22) (.own 2 1) (.own 3 9) TD), .row true T.api_Node 22 (Ω .scat (nodesD nodes) [.agg (dNode Ψ ⟨J, 0, 0, 0, 0⟩)]), .row true T.int 1 (oD order), .row true T.api_Vec 9 AT] ∧
        Good P F.P_bvh_builder_part [.ptr 0 0, .ref 2 1 f c, .d (.i .i64 (Ω .ci (c / 2))), .d (.i .i64 al)] [.var (bcell Ψ (.own 1 22) (.own 2 1) (.own 3 9) TD), .row true T.api_Node 22 (Ω .scat (nodesD nodes) [.agg (dNode Ψ ⟨J, 0, 0, 0, 0⟩)]), .row true T.int 1 (oD order), .row true T.api_Vec 9 AT]
          (.tup []) [.var (bcell Ψ (.own 1 22) (.own 2 1) (.own 3 9) TD), .row true T.api_Node 22 (Ω .scat (nodesD nodes) [.agg (dNode Ψ ⟨J, 0, 0, 0, 0⟩)]), .row true T.int 1 (oD s2.order), .row true T.api_Vec 9 AT] ∧
        Good P F.P_bvh_builder_node [.ptr 0 0, .d (.i .i64 (Ω .ci f)), .d (.i .i64 (Ω .ci (c / 2)))] [.var (bcell Ψ (.own 1 22) (.own 2 1) (.own 3 9) TD), .row true T.api_Node 22 (Ω .scat (nodesD nodes) [.agg (dNode Ψ ⟨J, 0, 0, 0, 0⟩)]), .row true T.int 1 (oD s2.order), .row true T.api_Vec 9 AT]
          (.d (.i .i64 (Ω .ci (nodes.length + 1)))) [.var (bcell Ψ (.own 4 22) (.own 2 1) (.own 3 9) TD), .dead, .row true T.int 1 (oD s3.order), .row true T.api_Vec 9 AT, .row true T.api_Node 22 (nodesD s3.nodes)] ∧
        Good P F.P_bvh_builder_node [.ptr 0 0, .d (.i .i64 (Ω .ci (f + c / 2))), .d (.i .i64 (Ω .ci (c - c / 2)))] [.var (bcell Ψ (.own 1 22) (.own 2 1) (.own 3 9) TD), .row true T.api_Node 22 (nodesD s3.nodes), .row true T.int 1 (oD s3.order), .row true T.api_Vec 9 AT]
          (.d (.i .i64 (Ω .ci s3.nodes.length))) [.var (bcell Ψ (.own 4 22) (.own 2 1) (.own 3 9) TD), .dead, .row true T.int 1 (oD s4.order), .row true T.api_Vec 9 AT, .row true T.api_Node 22 (nodesD s4.nodes)] ∧
        s4.nodes[nodes.length]? = some ⟨J, 0, 0, 0, 0⟩ := fun h4 => by
      rw [if_neg (by omega)] at hs'
      have hseg : ((order.drop f).take c).Nodup := (hnd.sublist (List.drop_sublist _ _)).sublist (List.take_sublist _ _)
      have hsl : ((order.drop f).take c).length = c := by rw [List.length_take, List.length_drop]; omega
      have hpp := partS_perm (lt := aheadS m (widS (bxM m ((order.drop f).take c)))) (fun p => by unfold aheadS; simp) c ((order.drop f).take c) (c / 2) hseg
      have hpl := hpp.length_eq.trans hsl
      have l0 : (order.take f).length = f := by rw [List.length_take]; omega
      obtain ⟨s2, hs2⟩ : ∃ s2 : BS, s2 = ⟨nodes ++ [⟨J, 0, 0, 0, 0⟩], order.take f ++ partS (aheadS m (widS (bxM m ((order.drop f).take c)))) c ((order.drop f).take c) (c / 2) ++ order.drop (f + c)⟩ := ⟨_, rfl⟩
      rw [← hs2] at hs'
      have o2p : s2.order.Perm order := by
        rw [hs2]
        have e : order.take f ++ (order.drop f).take c ++ order.drop (f + c) = order := by
          rw [List.append_assoc, ← List.drop_drop, List.take_append_drop, List.take_append_drop]
        exact ((hpp.append_left _).append_right _).trans (.of_eq e)
      have l2 := o2p.length_eq
      have n2 : s2.nodes.length = nodes.length + 1 := by rw [hs2]; simp
      have nd2 := o2p.nodup_iff.2 hnd
      obtain ⟨t3, h3⟩ := nodeS_ok (m := m) (tris := tris) g f (c / 2) s2 (by omega) (by omega) (by omega) nd2
      have g3 := bnode_good hT hA ht hm hk hk2 g f (c / 2) s2 (by omega) (by omega) (by omega) nd2 (fun i hi => hov i (o2p.mem_iff.1 hi)) (by omega) (by omega)
      obtain ⟨s3, hs3⟩ : ∃ s3, s3 = nodeS m tris g f (c / 2) s2 := ⟨_, rfl⟩
      rw [← hs3] at hs' h3 g3
      have o3p : s3.order.Perm order := (nodup_of_parts h3.len h3.perm h3.out).trans o2p
      have l3 := o3p.length_eq
      have m3 := h3.more
      have nd3 := o3p.nodup_iff.2 hnd
      obtain ⟨t4, h4'⟩ := nodeS_ok (m := m) (tris := tris) g (f + c / 2) (c - c / 2) s3 (by omega) (by omega) (by omega) nd3
      have g4 := bnode_good hT hA ht hm hk hk2 g (f + c / 2) (c - c / 2) s3 (by omega) (by omega) (by omega) nd3 (fun i hi => hov i (o3p.mem_iff.1 hi)) (by omega) (by omega)
      obtain ⟨s4, hs4⟩ : ∃ s4, s4 = nodeS m tris g (f + c / 2) (c - c / 2) s3 := ⟨_, rfl⟩
      rw [← hs4] at hs' h4' g4
      have q3 := h3.lt
      refine ⟨widS (bxM m ((order.drop f).take c)), s2, s3, s4, hs', widest_good (order := order) (m := m) (OD := oD order) (TD := TD) (AT := AT) ⟨hoF.get _, hol, fun i hi => hA i (hov i hi), hos⟩ f c hfc hc hm hk hk2, ?_, ?_, g4, ?_⟩
      · have := part_good (order := order) (m := m) (ND := Ω .scat (nodesD nodes) [.agg (dNode Ψ ⟨J, 0, 0, 0, 0⟩)]) (TD := TD) (AT := AT) (fun i hi => hA i (hov i hi)) hos hnd f c (c / 2) (widS (bxM m ((order.drop f).take c))) hfc (by omega) hm hk hk2
        rw [hs2]
        exact this
      · rw [n2] at g3
        rw [hnF.cat]
        have e : s2.nodes = nodes ++ [⟨J, 0, 0, 0, 0⟩] := by rw [hs2]
        rw [e] at g3
        exact g3
      · rw [h4'.old _ (by omega), h3.old _ (by omega), hs2]
        simp
    generalize oD = O at *
    generalize nodesD = N at *
    refine rq ?_
    rw [hw]
    refine rq ?_
    rw [hol]
    refine ⟨ci_nonneg _, (by simp only [wz]; omega), (by simp only [wz]; omega), (by simp only [wz]; omega), (fun h => nomatch h), ?_⟩
    rw [e1]
    refine LoopG.introB (σ := Nat) [.slot 7 900001 T.api_Box 18] [0, 1, 2, 7, 23, 24, 25] [0, 1, 2, 3, 1050]
      (fun i => [.ptr 0 0, .d (.i .i64 (Ω .ci f)), .d (.i .i64 (Ω .ci c)), .own 1050 18, .ref 2 1 f c, .d (.i .i64 (Ω .ci c)), .d (.i .i64 (Ω .ci i))])
      (fun i => [.var (bcell Ψ (.own 1 22) (.own 2 1) (.own 3 9) TD), .row true T.api_Node 22 (N nodes), .row true T.int 1 (O order), .row true T.api_Vec 9 AT, .row true T.api_Box 18 (Ψ .dBs (S i))])
      (fun i => i ≤ c)
      (fun i => c - i) 0 [0, 1, 2, 3, 900001] (Nat.zero_le _) ⟨rfl, rfl, (by rw [hz]; rfl)⟩ ?_
    intro j hj
    have hsl := hlen j hj
    rcases Nat.lt_or_ge j c with hlt | hge
    · obtain ⟨i, hi, h1, h2, h3⟩ := hel j hlt
      have e := hst j i hlt hi
      have hq : Ω .lt (Ω .ci j) (Ω .ci c) = true := by simp only [wz]; omega
      generalize tlAt tris i = t at *
      generalize bxT t = B at *
      refine rq ?_
      refine ⟨j + 1, [0, 1, 2, 3, 1510], hlt, by omega, rfl, ?_, ?_⟩
      · refine Eq.trans (b := [.ptr 0 0, .d (.i .i64 (Ω .ci f)), .d (.i .i64 (Ω .ci c)), .own 1050 18, .ref 2 1 f c, .d (.i .i64 (Ω .ci c)), .d (.i .i64 _)]) rfl ?_
        rw [wrap_succ (by omega)]
      · rw [e, ← scat_dBs]
        rfl
    · obtain rfl : j = c := by omega
      have hq : Ω .lt (Ω .ci j) (Ω .ci j) = false := by simp only [wz]; omega
      by_cases h4 : j ≤ 4
      · rw [if_pos h4] at hs'
        subst hs'
        have q4 : Ω .le (Ω .ci j) 4 = true := by simp only [wz]; omega
        have g1 : Ω .sget (Ω .scat (N nodes) [.agg (dNode Ψ ⟨J, 0, 0, 0, 0⟩)]) nodes.length = some (.agg (dNode Ψ ⟨J, 0, 0, 0, 0⟩)) := by
          rw [hnF.cat]; exact hnF.get _ _ _ (by simp)
        have g2 : Ω .sget (Ω .sset (Ω .scat (N nodes) [.agg (dNode Ψ ⟨J, 0, 0, 0, 0⟩)]) nodes.length (.agg (dNode Ψ ⟨J, 0, 0, Ω .ci f, 0⟩))) nodes.length = some (.agg (dNode Ψ ⟨J, 0, 0, Ω .ci f, 0⟩)) := by
          rw [hnF.cat, hnF.set]; exact hnF.get _ _ _ (by simp)
        have ef : N (nodes ++ [⟨J, 0, 0, Ω .ci f, Ω .ci j⟩]) = Ω .sset (Ω .sset (Ω .scat (N nodes) [.agg (dNode Ψ ⟨J, 0, 0, 0, 0⟩)]) nodes.length (.agg (dNode Ψ ⟨J, 0, 0, Ω .ci f, 0⟩))) nodes.length (.agg (dNode Ψ ⟨J, 0, 0, Ω .ci f, Ω .ci j⟩)) := by
          rw [hnF.cat, hnF.set, hnF.set, set_last, set_last]
        simp only
        rw [ef]
        clear ef hrec hst hel
        refine rq ?_
        rw [hnl]
        refine ⟨ci_nonneg _, (by simp only [wz, slen_scat, hnl]; omega), (by simp only [wz, slen_scat, hnl]; omega), _, g1, ?_⟩
        refine rq ?_
        refine ⟨ci_nonneg _, (by simp only [wz, slen_sset, slen_scat, hnl]; omega), (by simp only [wz, slen_sset, slen_scat, hnl]; omega), _, g2, ?_⟩
        refine rq ?_
        exact ⟨[1810], rfl, rfl, rfl⟩
      · obtain ⟨al, s2, s3, s4, rfl, gw, gp, g3, g4, ha⟩ := hrec (by omega)
        clear hs' hst hel
        obtain ⟨n2, o2⟩ := s2
        obtain ⟨n3, o3⟩ := s3
        obtain ⟨n4, o4⟩ := s4
        simp only at gp g3 g4 ha ⊢
        have q4 : Ω .le (Ω .ci j) 4 = false := by simp only [wz]; omega
        have hdiv : Ω .wrap .i64 ((Ω .ci j).tdiv 2) = Ω .ci (j / 2) := by
          have e : (Ω .ci j).tdiv 2 = Ω .ci (j / 2) := (Int.ofNat_tdiv j 2).symm
          rw [e]
          exact wrap_ci (by omega)
        have hw2 : Ω .wrap .i64 (Ω .ci f + Ω .ci (j / 2)) = Ω .ci (f + j / 2) := by rw [wrap_add (by omega)]
        have hw3 : Ω .wrap .i64 (Ω .ci j - Ω .ci (j / 2)) = Ω .ci (j - j / 2) := by rw [wrap_sub (by omega) (by omega)]
        have g5 : Ω .sget (N n4) nodes.length = some (.agg (dNode Ψ ⟨J, 0, 0, 0, 0⟩)) := hnF.get _ _ _ ha
        have hal : nodes.length < n4.length := (List.getElem?_eq_some_iff.1 ha).1
        have hn4 := hnF.len n4
        have g6 : Ω .sget (Ω .sset (N n4) nodes.length (.agg (dNode Ψ ⟨J, Ω .ci (nodes.length + 1), 0, 0, 0⟩))) nodes.length = some (.agg (dNode Ψ ⟨J, Ω .ci (nodes.length + 1), 0, 0, 0⟩)) := by
          rw [hnF.set]; exact hnF.get _ _ _ (List.getElem?_set_self hal)
        have ef : N (n4.set nodes.length ⟨J, Ω .ci (nodes.length + 1), Ω .ci n3.length, 0, 0⟩) = Ω .sset (Ω .sset (N n4) nodes.length (.agg (dNode Ψ ⟨J, Ω .ci (nodes.length + 1), 0, 0, 0⟩))) nodes.length (.agg (dNode Ψ ⟨J, Ω .ci (nodes.length + 1), Ω .ci n3.length, 0, 0⟩)) := by
          rw [hnF.set, hnF.set, List.set_set]
        rw [ef]
        clear ef hrec
        refine rq ?_
        rw [hdiv]
        refine rq ?_
        rw [hw, hol]
        refine ⟨ci_nonneg _, (by simp only [wz]; omega), (by simp only [wz]; omega), (by simp only [wz]; omega), (fun h => nomatch h), ?_⟩
        refine rq ?_
        rw [e1]
        refine rq ?_
        rw [hw2, hw3]
        refine rq ?_
        rw [hn4, hnl]
        refine ⟨ci_nonneg _, (by simp only [wz]; omega), (by simp only [wz]; omega), _, g5, ?_⟩
        refine rq ?_
        refine ⟨ci_nonneg _, (by simp only [wz, slen_sset, hn4]; omega), (by simp only [wz, slen_sset, hn4]; omega), _, g6, ?_⟩
        refine rq ?_
        exact ⟨[1020056], rfl, rfl, rfl⟩
end Go.K.S
end
section
namespace Go.K
open Go
def midS (b : BL) : VL := Ψ .cV ⟨rv b.lo.x + rv b.hi.x, rv b.lo.y + rv b.hi.y, rv b.lo.z + rv b.hi.z⟩
def midT (tris : List TL) (i : Nat) : VL := midS (bxT (tlAt tris i))
def buildS (tris : List TL) : BS := nodeS (midT tris) tris tris.length 0 tris.length ⟨[], List.range tris.length⟩
theorem Tn_tl0 {k : Nat} : Tn k tl0 := by
  have h : Rn k ⟨false, [], []⟩ := ⟨fun x hx => absurd hx List.not_mem_nil, fun x hx => absurd hx List.not_mem_nil, Nat.zero_le _, Nat.zero_le _⟩
  exact ⟨⟨h, h, h⟩, ⟨h, h, h⟩, ⟨h, h, h⟩⟩
theorem Tn_tlAt {k : Nat} {tris : List TL} (ht : ∀ t, t ∈ tris → Tn k t) (i : Nat) : Tn k (tlAt tris i) := by
  unfold tlAt
  cases h : tris[i]? with
  | none => exact Tn_tl0
  | some t => exact ht t (List.mem_of_getElem? h)
end Go.K
namespace Go.K.S
open Go Go.K
set_option maxHeartbeats 8000000
set_option maxRecDepth 20000
theorem midS_n {k : Nat} {b : BL} (h : Bn k b) (hk : 0 < k) : Vn (k + k + 1) (midS b) :=
  Vn_cV ⟨Qn_add (Qn_rv h.lo.x hk) (Qn_rv h.hi.x hk), Qn_add (Qn_rv h.lo.y hk) (Qn_rv h.hi.y hk), Qn_add (Qn_rv h.lo.z hk) (Qn_rv h.hi.z hk)⟩
theorem build_good {tris : List TL} {TD : List D} {k : Nat} (hT : ∀ (i : Nat) t, tris[i]? = some t → Ω .sget TD i = some (.agg (dT Ψ t))) (hTl : Ω .slen TD = tris.length) (hn : tris.length ≤ 4096)
    (ht : ∀ t, t ∈ tris → Tn k t) (hk : 0 < k) (hk2 : k < 60000000) :
    Good P F.bvh_Build [.d (.sl TD)] [] (.tup [.d (.agg [.sl (nodesD (buildS tris).nodes), .sl (oD (buildS tris).order)]), .d (.i .i64 0)]) [] := by
  refine G.bvh_Build fun C C2 hC hC2 => ?_
  have hm : ∀ i, Vn (k + k + 1) (midT tris i) := fun i => midS_n (bxT_n (Tn_tlAt ht i) hk) hk
  have gn : 0 < tris.length → Good P F.P_bvh_builder_node [.ptr 0 0, .d (.i .i64 0), .d (.i .i64 (Ω .ci tris.length))] [.var (bcell Ψ (.own 1 22) (.own 2 1) (.own 3 9) TD), .row true T.api_Node 22 (nodesD []), .row true T.int 1 (oD (List.range tris.length)), .row true T.api_Vec 9 (Ψ .dVs ((List.range tris.length).map (midT tris)))]
      (.d (.i .i64 0)) [.var (bcell Ψ (.own 4 22) (.own 2 1) (.own 3 9) TD), .dead, .row true T.int 1 (oD (buildS tris).order), .row true T.api_Vec 9 (Ψ .dVs ((List.range tris.length).map (midT tris))), .row true T.api_Node 22 (nodesD (buildS tris).nodes)] := fun h =>
    bnode_good hT (fun i hi => by rw [sget_dVs]; simp [hi]) (fun t h => (ht t h).mono (by omega)) hm (by omega) (by omega) tris.length 0 tris.length ⟨[], List.range tris.length⟩ (Nat.le_refl _) h (by simp) List.nodup_range (fun i hi => by simpa using hi) (by simp; omega) (by simp; omega)
  have hb0 : tris.length = 0 → buildS tris = ⟨[], []⟩ := fun h => by
    have : tris = [] := List.eq_nil_of_length_eq_zero h
    subst this; rfl
  generalize buildS tris = R at *
  have hoF := oD_ok
  have hnF := nodesD_ok
  have hst : ∀ j, Ω .scat (oD (List.range j)) [.i .i64 (Ω .ci j)] = oD (List.range (j + 1)) := fun j => by rw [hoF.cat, List.range_succ]
  have hsm : ∀ j, Ω .scat (Ψ .dVs ((List.range j).map (midT tris))) [.agg (dV Ψ (midT tris j))] = Ψ .dVs ((List.range (j + 1)).map (midT tris)) := fun j => by
    rw [List.range_succ, List.map_append, ← scat_dVs]; rfl
  have hsl : ∀ j, ((List.range j).map (midT tris)).length = j := fun j => by simp
  have hol : ∀ j, Ω .slen (oD (List.range j)) = j := fun j => by rw [hoF.len]; simp
  have z1 : oD (List.range 0) = [] := rfl
  have z2 : (List.range 0).map (midT tris) = [] := rfl
  have z3 : nodesD [] = [] := rfl
  have z4 : oD [] = [] := rfl
  obtain ⟨A, hA⟩ : ∃ A : Nat → List VL, A = fun j => (List.range j).map (midT tris) := ⟨_, rfl⟩
  have eA : ∀ j, (List.range j).map (midT tris) = A j := fun j => by rw [hA]
  obtain ⟨O, hO⟩ : ∃ O : Nat → List D, O = fun j => oD (List.range j) := ⟨_, rfl⟩
  have eO : ∀ j, oD (List.range j) = O j := fun j => by rw [hO]
  simp only [eA, eO] at gn hst hsm hsl hol z1 z2
  clear eA hA eO hO
  have hel : ∀ j, j < tris.length → ∃ t : TL, ∃ B : BL, Ω .sget TD j = some (.agg (dT Ψ t)) ∧ Good P F.bvh_around [.d (.agg (dT Ψ t))] [] (.d (.agg (dB Ψ B))) [] ∧ midT tris j = midS B ∧ Bn k B := fun j hj => by
    obtain ⟨t, htr⟩ : ∃ t, tris[j]? = some t := ⟨_, List.getElem?_eq_getElem hj⟩
    have htn := ht t (List.mem_of_getElem? htr)
    refine ⟨t, bxT t, hT _ _ htr, taround_good t htn hk (by omega), ?_, bxT_n htn hk⟩
    unfold midT tlAt
    rw [htr]; rfl
  generalize oD = OO at *
  generalize nodesD = N at *
  generalize tris.length = n at *
  have q0 : Ω .lt 4096 (Ω .ci n) = false := by simp only [wz]; omega
  refine rq ?_
  rw [hTl]
  refine rq ?_
  rw [hTl]
  refine LoopG.introB (σ := Nat) [.cell 1302 0 900001 T.api_Node 22, .cell 1302 1 900002 T.int 1, .cell 1302 3 900003 T.api_Vec 9] [0, 2, 4, 15, 16, 17] [1050, 1051, 1052, 1053, 1054]
    (fun i => [.d (.sl TD), .ptr 1050 0, .ptr 1051 0, .d (.sl TD), .d (.i .i64 (Ω .ci n)), .d (.i .i64 (Ω .ci i))])
    (fun i => [.var [.nil, .nil], .var (bcell Ψ (.own 1052 22) (.own 1053 1) (.own 1054 9) TD), .row true T.api_Node 22 (N []), .row true T.int 1 (O i), .row true T.api_Vec 9 (Ψ .dVs (A i))])
    (fun i => i ≤ n)
    (fun i => n - i) 0 [1000, 1302, 900001, 900002, 900003] (Nat.zero_le _) ⟨rfl, rfl, (by rw [z1, z2, z3]; rfl)⟩ ?_
  intro j hj
  have hl1 := hsl j
  have hl2 := hol j
  rcases Nat.lt_or_ge j n with hlt | hge
  · obtain ⟨t, B, h1, h2, h3, h4⟩ := hel j hlt
    have hq : Ω .lt (Ω .ci j) (Ω .ci n) = true := by simp only [wz]; omega
    have s1 := hst j
    have s2 := hsm j
    rw [h3] at s2
    have gx := sum2_good B.lo.x B.hi.x h4.lo.x h4.hi.x hk (by omega)
    have gy := sum2_good B.lo.y B.hi.y h4.lo.y h4.hi.y hk (by omega)
    have gz := sum2_good B.lo.z B.hi.z h4.lo.z h4.hi.z hk (by omega)
    have ex : Ψ .cr (rv B.lo.x + rv B.hi.x) = (midS B).x := rfl
    have ey : Ψ .cr (rv B.lo.y + rv B.hi.y) = (midS B).y := rfl
    have ez : Ψ .cr (rv B.lo.z + rv B.hi.z) = (midS B).z := rfl
    rw [ex] at gx
    rw [ey] at gy
    rw [ez] at gz
    generalize midS B = M at *
    refine rq ?_
    refine ⟨j + 1, [1050, 1051, 1052, 1708, 1931], hlt, by omega, rfl, ?_, ?_⟩
    · refine Eq.trans (b := [.d (.sl TD), .ptr 1050 0, .ptr 1051 0, .d (.sl TD), .d (.i .i64 (Ω .ci n)), .d (.i .i64 _)]) rfl ?_
      rw [wrap_succ (by omega)]
    · rw [← s1, ← s2]
      rfl
  · obtain rfl : j = n := by omega
    have hq : Ω .lt (Ω .ci j) (Ω .ci j) = false := by simp only [wz]; omega
    by_cases h0 : j = 0
    · rw [hb0 h0]
      subst h0
      have e1 : N [] = [] := z3
      have e2 : OO [] = [] := z4
      have q2 : Ω .lt 0 (Ω .ci 0) = false := by simp only [wz]; omega
      simp only
      rw [z3, z4]
      refine rq ?_
      rw [hTl]
      refine rq ?_
      rw [z1]
    · have g := gn (by omega)
      have q2 : Ω .lt 0 (Ω .ci j) = true := by simp only [wz]; omega
      obtain ⟨rn, ro⟩ := R
      simp only at g ⊢
      refine rq ?_
      rw [hTl]
      refine rq ?_
      rw [hTl]
      exact rq trivial
end Go.K.S
end
section
namespace Go.K
open Go Go.K.S
theorem joinT_n {tris : List TL} {k : Nat} (ht : ∀ t, t ∈ tris → Tn k t) (hk : 0 < k) (l : List Nat) : Bn k (joinT tris l) := Bn_cB (Bq_joins hk _ (fun b hb => by
  obtain ⟨i, hi, rfl⟩ := List.mem_map.1 hb
  exact bxT_n (Tn_tlAt ht i) hk))
theorem nodeS_bn {m : Nat → VL} {tris : List TL} {k : Nat} (ht : ∀ t, t ∈ tris → Tn k t) (hk : 0 < k) : ∀ (g f c : Nat) (s : BS), (∀ n, n ∈ s.nodes → Bn k n.box) → ∀ n, n ∈ (nodeS m tris g f c s).nodes → Bn k n.box
  | 0, f, c, s, h => h
  | g + 1, f, c, s, h => by
    have h1 : ∀ x : NodeL, x.box = joinT tris ((s.order.drop f).take c) → Bn k x.box := fun x e => by rw [e]; exact joinT_n ht hk _
    rw [nodeS]
    split
    · intro n hn
      rcases List.mem_append.1 hn with hn | hn
      · exact h n hn
      · rw [List.mem_singleton.1 hn]; exact h1 _ rfl
    · intro n hn
      rcases List.mem_or_eq_of_mem_set hn with hn | hn
      · refine nodeS_bn ht hk g _ _ _ (nodeS_bn ht hk g _ _ _ ?_) n hn
        intro x hx
        rcases List.mem_append.1 hx with hx | hx
        · exact h x hx
        · rw [List.mem_singleton.1 hx]; exact h1 _ rfl
      · rw [hn]; exact h1 _ rfl
end Go.K
namespace Go.K.S
open Go Go.K
set_option maxHeartbeats 8000000
set_option maxRecDepth 20000
theorem nearest_build {tris : List TL} {TD : List D} (T' : TriH tris TD) (o d : VL) {k : Nat} (ho : Vn k o) (hd : Vn k d) (ht : ∀ t, t ∈ tris → Tn k t) (hk : 0 < k) (hk2 : k < 134217728) (hn : tris.length ≤ 4096) :
      Good P F.trace_Nearest [.d (.agg [.sl (nodesD (buildS tris).nodes), .sl (oD (buildS tris).order)]), .d (.sl TD), .d (.agg (dV Ψ o)), .d (.agg (dV Ψ d))] []
        (.tup [.d (.i .i64 (firstS o d tris).best), .d (.agg (dM Ψ (Ψ .cM (firstS o d tris).m))), .d (.b (decide (0 ≤ (firstS o d tris).best)))]) [] := by
  rcases Nat.eq_zero_or_pos tris.length with h0 | h0
  · have : tris = [] := List.eq_nil_of_length_eq_zero h0
    subst this
    exact nearest_none o d
  · obtain ⟨t, h⟩ := nodeS_ok (m := midT tris) (tris := tris) tris.length 0 tris.length ⟨[], List.range tris.length⟩ (Nat.le_refl _) h0 (by simp) List.nodup_range
    have hb := nodeS_bn (m := midT tris) ht hk tris.length 0 tris.length ⟨[], List.range tris.length⟩ (fun n hn => absurd hn List.not_mem_nil)
    change NodeOk tris 0 tris.length _ (buildS tris) t at h
    change ∀ n, n ∈ (buildS tris).nodes → _ at hb
    have hp : (buildS tris).order.Perm (List.range tris.length) := nodup_of_parts h.len h.perm h.out
    have hl := hp.length_eq
    rw [List.length_range] at hl
    have hm := h.more
    have g := nearest_good (order := (buildS tris).order) (OD := oD (buildS tris).order) (nodes := (buildS tris).nodes) (ND := nodesD (buildS tris).nodes) (TD := TD)
      ⟨oD_ok.get _, oD_ok.len _, fun i hi => List.mem_range.1 (hp.mem_iff.1 hi), T'.t, T'.tl, by omega, by omega⟩ ⟨nodesD_ok.get _, nodesD_ok.len _, by simp only [List.length_nil] at hm; omega⟩ o d ho hd ht hb hk hk2 t h.fit h.ix
    rw [near_first h.held (fun j => by rw [h.set]; simp)] at g
    exact g
end Go.K.S
end
section
namespace Go.K
open Go
def sq : Nat → Nat
  | 0 => 0
  | n + 1 => if (sq n + 1) * (sq n + 1) ≤ n + 1 then sq n + 1 else sq n
theorem sq_le : ∀ n, sq n * sq n ≤ n
  | 0 => Nat.le_refl _
  | n + 1 => by
    rw [sq]
    split
    · assumption
    · exact Nat.le_trans (sq_le n) (by omega)
theorem lt_sq : ∀ n, n < (sq n + 1) * (sq n + 1)
  | 0 => by decide
  | n + 1 => by
    have h := lt_sq n
    rw [sq]
    split
    · generalize sq n = s at *
      have : (s + 1 + 1) * (s + 1 + 1) = (s + 1) * (s + 1) + 2 * (s + 1) + 1 := by grind
      omega
    · omega
theorem sq_unique {n x : Nat} (h1 : x * x ≤ n) (h2 : n < (x + 1) * (x + 1)) : sq n = x := by
  have h3 := sq_le n
  have h4 := lt_sq n
  generalize sq n = s at *
  rcases Nat.lt_trichotomy s x with h | h | h
  · have := Nat.mul_le_mul (show s + 1 ≤ x by omega) (show s + 1 ≤ x by omega); omega
  · exact h
  · have := Nat.mul_le_mul (show x + 1 ≤ s by omega) (show x + 1 ≤ s by omega); omega
theorem sq_zero_iff {n : Nat} : sq n = 0 ↔ n = 0 := by
  constructor
  · intro h
    have := lt_sq n
    rw [h] at this
    omega
  · rintro rfl; rfl
theorem le_sq {n x : Nat} (h : x * x ≤ n) : x ≤ sq n := by
  have h4 := lt_sq n
  generalize sq n = s at *
  rcases Nat.lt_or_ge s x with h2 | h2
  · have := Nat.mul_le_mul (show s + 1 ≤ x by omega) (show s + 1 ≤ x by omega); omega
  · exact h2
theorem sq_self (x : Nat) : sq (x * x) = x := sq_unique (Nat.le_refl _) (by grind)
theorem newton {n x : Nat} (hx : 0 < x) (h : sq n ≤ x) : sq n ≤ (x + n / x) / 2 := by
  have h3 := sq_le n
  generalize sq n = s at *
  have key : 2 * s ≤ x + n / x := by
    rcases Nat.lt_or_ge (2 * s) (x + 1) with q | q
    · have := Nat.le_add_right x (n / x)
      exact Nat.le_trans (by omega) this
    · have : 2 * s - x ≤ n / x := by
        rw [Nat.le_div_iff_mul_le hx]
        refine Nat.le_trans ?_ h3
        obtain ⟨e, rfl⟩ : ∃ e, x = s + e := ⟨x - s, by omega⟩
        have e2 : 2 * s - (s + e) = s - e := by omega
        rw [e2]
        obtain ⟨f, rfl⟩ : ∃ f, s = e + f := ⟨s - e, by omega⟩
        have e3 : e + f - e = f := by omega
        rw [e3]
        have : (e + f) * (e + f) = f * (e + f + e) + e * e := by grind
        omega
      omega
  rw [Nat.le_div_iff_mul_le (by omega)]
  omega
theorem newton_end {n x : Nat} (hx : 0 < x) (h : sq n ≤ x) (hy : x ≤ (x + n / x) / 2) : sq n = x := by
  have h1 : x ≤ n / x := by
    generalize n / x = q at *
    omega
  rw [Nat.le_div_iff_mul_le hx] at h1
  have := le_sq h1
  omega
theorem newton_start {n k : Nat} (h : n < 2 ^ k) : sq n ≤ 2 ^ ((k + 1) / 2) := by
  have h3 := sq_le n
  generalize sq n = s at *
  rcases Nat.lt_or_ge (2 ^ ((k + 1) / 2)) s with h2 | h2
  · have h4 := Nat.mul_le_mul (Nat.le_of_lt h2) (Nat.le_of_lt h2)
    rw [← Nat.pow_add] at h4
    have h5 : 2 ^ k ≤ 2 ^ ((k + 1) / 2 + (k + 1) / 2) := Nat.pow_le_pow_right (by omega) (by omega)
    omega
  · exact h2
def Bitw (n x i : Nat) : Prop := x * x ≤ n ∧ n < (x + 2 ^ i) * (x + 2 ^ i)
theorem bitw_start {n k : Nat} (h : n < 2 ^ k) : Bitw n 0 ((k + 1) / 2 + 1) := by
  refine ⟨by simp, ?_⟩
  rw [Nat.zero_add, ← Nat.pow_add]
  exact Nat.lt_of_lt_of_le h (Nat.pow_le_pow_right (by omega) (by omega))
theorem bitw_yes {n x i : Nat} (h : Bitw n x (i + 1)) (hy : (x + 2 ^ i) * (x + 2 ^ i) ≤ n) : Bitw n (x + 2 ^ i) i := by
  refine ⟨hy, ?_⟩
  have := h.2
  rw [Nat.pow_succ] at this
  rw [show x + 2 ^ i + 2 ^ i = x + 2 ^ i * 2 by omega]
  exact this
theorem bitw_no {n x i : Nat} (h : Bitw n x (i + 1)) (hy : ¬ (x + 2 ^ i) * (x + 2 ^ i) ≤ n) : Bitw n x i := ⟨h.1, by omega⟩
theorem bitw_end {n x : Nat} (h : Bitw n x 0) : sq n = x := sq_unique h.1 h.2
end Go.K
end
section
namespace Go.K
open Go
theorem N_one : N [1] := ⟨by simp [lim_cons, lim_nil], by simp⟩
theorem N_two : N [2] := ⟨by simp [lim_cons, lim_nil], by simp⟩
end Go.K
namespace Go.K.S
open Go Go.K
set_option maxHeartbeats 4000000
set_option maxRecDepth 20000
theorem root_good (a : List Nat) (ha : N a) (hl : a.length ≤ 4096) :
    Good P F.root_Sqrt [.d (dN Ψ a)] [] (.tup [.d (dN Ψ (Ψ .cn (sq (nv a)))), .d (.b (decide (sq (nv a) * sq (nv a) = nv a)))]) [] := by
  refine G.root_Sqrt fun C C2 hC hC2 => ?_
  obtain ⟨m, hm, hm2⟩ : ∃ m, a.length ≤ m ∧ m ≤ 4096 := ⟨4096, hl, Nat.le_refl _⟩
  have hp2 : ∀ k, (4294967296 : Nat) ^ k = 2 ^ (32 * k) := fun k => by rw [show (4294967296 : Nat) = 2 ^ 32 from rfl, ← Nat.pow_mul]
  have hM : nv a < 4294967296 ^ m := Nat.lt_of_lt_of_le (nv_lt ha.lim) (B_mono hm)
  have g1 := norm_good a ha
  generalize nv a = n at *
  have hN : ∀ x, x < 4294967296 ^ (m + 1) → N (Ψ .cn x) ∧ (Ψ .cn x).length ≤ m + 1 := fun x h => ⟨⟨lim_cn _, by have := len_cn.2 h; omega⟩, len_cn.2 h⟩
  have hM1 : (4294967296 : Nat) ^ m < 4294967296 ^ (m + 1) := Nat.pow_lt_pow_right (by omega) (by omega)
  have hnm := Nat.lt_trans hM hM1
  have hNn := (hN n hnm).1
  have g2 := bits_good (Ψ .cn n) hNn
  rw [nv_cn] at g2
  have hbm : bl n ≤ 32 * m := bl_le.2 (by rw [← hp2]; exact hM)
  have hb : bl n ≤ 131072 := by omega
  have g3 := shl_good [1] ((bl n + 1) / 2) N_one (by simp) (by omega)
  rw [show nv [1] * 2 ^ ((bl n + 1) / 2) = 2 ^ ((bl n + 1) / 2) by simp] at g3
  have h0 := newton_start (bl_lt n)
  have hx0 : 2 ^ ((bl n + 1) / 2) < 4294967296 ^ (m + 1) := by
    refine Nat.lt_of_lt_of_le (Nat.pow_lt_pow_right (by omega) (show (bl n + 1) / 2 < 32 * (m + 1) by clear hM hM1 hN hnm; omega)) ?_
    rw [hp2]
    exact Nat.le_refl _
  have hxp : 0 < 2 ^ ((bl n + 1) / 2) := Nat.pow_pos (by omega)
  refine nx ?_
  refine ⟨_, hC _ _ _ g1, ?_⟩
  refine nx ?_
  refine BrG.split (fun h => ?_) (fun h => ?_)
  · have : (Ψ .cn n).length = 0 := by have := h; simp only [wz] at this ⊢; omega
    have hn : n = 0 := cn_eq_nil.1 (List.eq_nil_of_length_eq_zero this)
    subst hn
    refine nx ?_
    rw [show sq 0 = 0 from rfl, cn_zero]
    rfl
  have hn : n ≠ 0 := fun e => by
    subst e
    rw [cn_zero] at h
    simp [wz] at h
  refine nx ?_
  refine ⟨_, hC _ _ _ g2, ?_⟩
  refine nx ?_
  rw [show Ω .wrap .i64 ((Ω .wrap .i64 (Ω .ci (bl n) + 1)).tdiv 2) = Ω .ci ((bl n + 1) / 2) by
    rw [wrap_succ (by omega), show (2 : Int) = Ω .ci 2 from rfl, w_ci, w_ci, ← Int.ofNat_tdiv, ← w_ci, wrap_ci (by omega)]]
  refine ⟨_, hC _ _ _ g3, ?_⟩
  generalize 2 ^ ((bl n + 1) / 2) = x0 at *
  refine nx ?_
  refine LoopG.intro (σ := Nat) [0, 4] [] (fun x => [.d (dN Ψ (Ψ .cn n)), .d (dN Ψ (Ψ .cn x))]) (fun _ => [])
    (fun x => 0 < x ∧ sq n ≤ x ∧ x < 4294967296 ^ (m + 1)) (fun x => x) x0 [] ⟨hxp, h0, hx0⟩ ⟨rfl, rfl, rfl⟩ ?_
  rintro x ⟨hx, hs, hxl⟩
  have k1 := divmod_good (Ψ .cn n) (Ψ .cn x) hNn (hN x hxl).1 (by have := (hN n hnm).2; omega) (by rw [nv_cn]; omega)
  rw [nv_cn, nv_cn] at k1
  have hq : n / x < 4294967296 ^ (m + 1) := Nat.lt_of_le_of_lt (Nat.div_le_self _ _) hnm
  have k2 := add_good (Ψ .cn x) (Ψ .cn (n / x)) (hN x hxl).1 (hN _ hq).1 (by have := (hN x hxl).2; omega) (by have := (hN _ hq).2; omega)
  rw [nv_cn, nv_cn] at k2
  have hsum : x + n / x < 4294967296 ^ (m + 1 + 1) := by rw [Nat.pow_succ]; omega
  have hNs : N (Ψ .cn (x + n / x)) := ⟨lim_cn _, by have := len_cn.2 hsum; omega⟩
  have k3 := divmod_good (Ψ .cn (x + n / x)) [2] hNs N_two (by have := len_cn.2 hsum; omega) (by simp)
  rw [nv_cn, show nv [2] = 2 by simp] at k3
  have hy : (x + n / x) / 2 < 4294967296 ^ (m + 1) := by omega
  have k4 := cmp_good (Ψ .cn ((x + n / x) / 2)) (Ψ .cn x) (hN _ hy).1 (hN x hxl).1
  rw [nv_cn, nv_cn] at k4
  have e1 := newton hx hs
  have e2 := newton_end (n := n) hx hs
  have hci := @cmpI_nonneg ((x + n / x) / 2) x
  have hxx : x * x < 4294967296 ^ (m + 1 + (m + 1)) := lt_mul_pow hxl hxl
  have k5 := mul_good (Ψ .cn x) (Ψ .cn x) (hN x hxl).1 (hN x hxl).1 (by have := (hN x hxl).2; omega) (by have := (hN x hxl).2; omega)
  rw [nv_cn] at k5
  have k6 := cmp_good (Ψ .cn (x * x)) (Ψ .cn n) ⟨lim_cn _, by have := len_cn.2 hxx; omega⟩ hNn
  rw [nv_cn, nv_cn] at k6
  have hc0 := @cmpI_zero (x * x) n
  have hsn : sq n ≠ 0 := mt sq_zero_iff.1 hn
  generalize (x + n / x) % 2 = r2 at *
  generalize hyy : (x + n / x) / 2 = y at *
  generalize x + n / x = w at *
  generalize n % x = r1 at *
  generalize n / x = q at *
  generalize Ψ .cmpI y x = c1 at *
  generalize Ψ .cmpI (x * x) n = c2 at *
  refine nx ?_
  refine ⟨_, hC _ _ _ k1, ?_⟩
  refine nx ?_
  refine ⟨_, hC _ _ _ k2, ?_⟩
  refine nx ?_
  refine ⟨_, hC _ _ _ k3, ?_⟩
  refine nx ?_
  refine ⟨_, hC _ _ _ k4, ?_⟩
  refine nx ?_
  refine BrG.split (fun h => ?_) (fun h => ?_)
  · have hge := hci.1 (of_decide_eq_true h)
    have e3 := e2 hge
    rw [e3]
    refine nx ?_
    refine ⟨_, hC _ _ _ k5, ?_⟩
    refine nx ?_
    refine ⟨_, hC _ _ _ k6, ?_⟩
    refine nx ?_
    refine BrG.split (fun h => ?_) (fun h => ?_)
    · rw [decide_eq_true (hc0.1 (eq_true'.1 h))]
      exact nx trivial
    · rw [decide_eq_false (mt hc0.2 (eq_false'.1 h))]
      exact nx trivial
  · have hlt := mt hci.2 (of_decide_eq_false h)
    refine nx ?_
    exact ⟨y, [], ⟨by omega, e1, hy⟩, by omega, rfl, rfl, rfl⟩
theorem equal_good (a b : List Nat) (hal : a.length < 1099511627776) (hbl : b.length < 1099511627776) : Good P F.slices_Equal_L_uint32_uint32 [.d (dN Ψ a), .d (dN Ψ b)] [] (.d (.b (decide (a = b)))) [] := by
  refine G.slices_Equal_L_uint32_uint32 fun C C2 hC hC2 => ?_
  generalize hr : decide (a = b) = r
  refine nx ?_
  refine BrG.split (fun h => ?_) (fun h => ?_)
  · have hne : a.length ≠ b.length := by have := h; simp only [wz] at this ⊢; omega
    have : r = false := by rw [← hr]; exact decide_eq_false (fun q => hne (by rw [q]))
    subst this
    exact nx trivial
  · have he : a.length = b.length := by have := h; simp only [wz] at this ⊢; omega
    refine nx ?_
    refine LoopG.intro (σ := Nat) [0, 1, 12, 13] [] (fun k => [.d (dN Ψ a), .d (dN Ψ b), .d (.i .i64 (Ω .ci a.length)), .d (.i .i64 (Ω .ci k))]) (fun _ => []) (fun k => k ≤ a.length ∧ a.take k = b.take k) (fun k => a.length - k) 0 []
      ⟨Nat.zero_le _, rfl⟩ ⟨rfl, rfl, rfl⟩ ?_
    rintro k ⟨hk, hd⟩
    refine nx ?_
    refine BrG.split (fun h => ?_) (fun h => ?_)
    · have hk0 : k < a.length := by have := h; simp only [wz] at this; omega
      obtain ⟨u, hu⟩ : ∃ u, a[k]? = some u := ⟨_, List.getElem?_eq_getElem (by omega)⟩
      obtain ⟨v, hv⟩ : ∃ v, b[k]? = some v := ⟨_, List.getElem?_eq_getElem (by omega)⟩
      refine nx ?_
      refine idx_lims k u rfl hu rfl ?_
      refine nx ?_
      refine idx_lims k v rfl hv rfl ?_
      refine nx ?_
      refine BrG.split (fun h => ?_) (fun h => ?_)
      · have huv : u ≠ v := by have := h; simp only [wz] at this ⊢; omega
        have : r = false := by
          rw [← hr]
          refine decide_eq_false (fun q => huv ?_)
          rw [q, hv] at hu
          exact (Option.some.inj hu).symm
        subst this
        exact nx trivial
      · have huv : u = v := by have := h; simp only [wz] at this ⊢; omega
        subst huv
        refine nx ?_
        refine ⟨k + 1, [], ⟨hk0, ?_⟩, by omega, rfl, ?_, rfl⟩
        · rw [List.take_add_one, List.take_add_one, hd, hu, hv]
        · refine Eq.trans (b := [V.d (dN Ψ a), V.d (dN Ψ b), .d (.i .i64 (Ω .ci a.length)), V.d (.i .i64 _)]) rfl ?_
          rw [wrap_succ (by omega)]
    · have hk0 : k = a.length := by have := h; simp only [wz] at this; omega
      subst hk0
      have : r = true := by
        rw [← hr]
        refine decide_eq_true ?_
        rw [List.take_length, he, List.take_length] at hd
        exact hd
      subst this
      exact nx trivial
theorem rcheck_good (r : RL) {k : Nat} (h : Rn k r) (hk0 : 0 < k) (hk : k < 549755813888) : Good P F.rat_Check [.d (.agg (dR Ψ r))] [] (.d (.b (decide (r = Ψ .cr (rv r))))) [] := by
  refine G.rat_Check fun C C2 hC hC2 => ?_
  have g1 := read_good r h hk
  have q := Rn_cr.2 (Qn_rv h hk0)
  generalize Ψ .cr (rv r) = x at *
  have k1 := h.kn
  have k2 := h.kd
  have k3 := q.kn
  have k4 := q.kd
  have g2 := equal_good x.num r.num (by omega) (by omega)
  have g3 := equal_good x.den r.den (by omega) (by omega)
  have hR2 : decide (r = x) = (decide (x.neg = r.neg) && (decide (x.num = r.num) && decide (x.den = r.den))) := by
    rw [← Bool.decide_and, ← Bool.decide_and]
    exact decide_eq_decide.2 (RL.ext_iff''.trans ⟨fun h => ⟨h.1.symm, h.2.1.symm, h.2.2.symm⟩, fun h => ⟨h.1.symm, h.2.1.symm, h.2.2.symm⟩⟩)
  rw [hR2]
  clear hR2
  generalize decide (x.num = r.num) = t1 at *
  generalize decide (x.den = r.den) = t2 at *
  obtain ⟨s, x, y⟩ := x
  obtain ⟨s', x', y'⟩ := r
  simp only at *
  cases s <;> cases s' <;> cases t1 <;> cases t2
  all_goals exact rq trivial
end Go.K.S
end
section
namespace Go.K
open Go
def CD (D N : Nat) (q : Rat) : Prop := ∃ x : Int, q * (D : Rat) = (x : Rat) ∧ x.natAbs ≤ N
structure CV (D N : Nat) (v : V3) : Prop where
  x : CD D N v.x
  y : CD D N v.y
  z : CD D N v.z
theorem CD.mono {D N M : Nat} {q : Rat} (h : CD D N q) (hn : N ≤ M) : CD D M q := by
  obtain ⟨x, h1, h2⟩ := h; exact ⟨x, h1, Nat.le_trans h2 hn⟩
theorem CV.mono {D N M : Nat} {v : V3} (h : CV D N v) (hn : N ≤ M) : CV D M v := ⟨h.x.mono hn, h.y.mono hn, h.z.mono hn⟩
theorem CD.add {D N M : Nat} {p q : Rat} (hp : CD D N p) (hq : CD D M q) : CD D (N + M) (p + q) := by
  obtain ⟨x, h1, h2⟩ := hp
  obtain ⟨y, h3, h4⟩ := hq
  refine ⟨x + y, ?_, Nat.le_trans (Int.natAbs_add_le x y) (by omega)⟩
  rw [Rat.add_mul, h1, h3, Rat.intCast_add]
theorem CD.neg {D N : Nat} {p : Rat} (hp : CD D N p) : CD D N (-p) := by
  obtain ⟨x, h1, h2⟩ := hp
  refine ⟨-x, ?_, by rw [Int.natAbs_neg]; exact h2⟩
  rw [Rat.neg_mul, h1, Rat.intCast_neg]
theorem CD.sub {D N M : Nat} {p q : Rat} (hp : CD D N p) (hq : CD D M q) : CD D (N + M) (p - q) := by
  rw [Rat.sub_eq_add_neg]; exact hp.add hq.neg
theorem CD.mul {D N E M : Nat} {p q : Rat} (hp : CD D N p) (hq : CD E M q) : CD (D * E) (N * M) (p * q) := by
  obtain ⟨x, h1, h2⟩ := hp
  obtain ⟨y, h3, h4⟩ := hq
  refine ⟨x * y, ?_, by rw [Int.natAbs_mul]; exact Nat.mul_le_mul h2 h4⟩
  rw [Rat.natCast_mul, Rat.intCast_mul, ← h1, ← h3]
  grind
theorem CD.up {D N : Nat} {p : Rat} (E : Nat) (hp : CD D N p) : CD (D * E) (N * E) p := by
  obtain ⟨x, h1, h2⟩ := hp
  refine ⟨x * E, ?_, by rw [Int.natAbs_mul, Int.natAbs_natCast]; exact Nat.mul_le_mul_right _ h2⟩
  rw [Rat.natCast_mul, Rat.intCast_mul, ← h1]
  have : ((E : Int) : Rat) = (E : Rat) := rfl
  rw [this]
  grind
theorem CD.up' {D N : Nat} {p : Rat} (E : Nat) (hp : CD D N p) : CD (E * D) (E * N) p := by
  rw [Nat.mul_comm E D, Nat.mul_comm E N]; exact hp.up E
theorem CD.of {k : Nat} {q : Rat} (h : Qn k q) : ∃ D : Nat, 0 < D ∧ D ≤ 4294967296 ^ k ∧ CD D (4294967296 ^ k) q :=
  ⟨q.den, q.den_pos, Nat.le_of_lt h.d, q.num, (by
    have e : (q.num : Rat) / (q.den : Rat) = q := by rw [← Rat.mkRat_eq_div, Rat.mkRat_self]
    have hd : (q.den : Rat) ≠ 0 := by
      intro e
      have e' : ((q.den : Int) : Rat) = ((0 : Int) : Rat) := e
      have := Rat.intCast_inj.1 e'
      have := q.den_pos
      omega
    have h2 : q * (q.den : Rat) = (q.num : Rat) / (q.den : Rat) * (q.den : Rat) := by rw [e]
    rw [h2]; grind), Nat.le_of_lt h.n⟩
theorem CD.size {D N k : Nat} {q : Rat} (h : CD D N q) (hD : 0 < D) (h1 : D < 4294967296 ^ k) (h2 : N < 4294967296 ^ k) (hk : 0 < k) : Qn k q := by
  obtain ⟨x, h3, h4⟩ := h
  have hD' : (D : Rat) ≠ 0 := by
    intro e
    have : ((D : Int) : Rat) = ((0 : Int) : Rat) := e
    have := Rat.intCast_inj.1 this
    omega
  have e : q = mkRat x D := by
    rw [Rat.mkRat_eq_div, ← h3]
    have : ((D : Int) : Rat) = (D : Rat) := rfl
    grind
  rw [e]
  exact Qn_mk (by omega) h1 hk
theorem CD.inv {D N : Nat} {q : Rat} (h : CD D N q) (hq : q ≠ 0) (hD : 0 < D) : ∃ E : Nat, 0 < E ∧ E ≤ N ∧ CD E D (1 / q) := by
  obtain ⟨x, h1, h2⟩ := h
  have hD' : (D : Rat) ≠ 0 := by
    intro e
    have : ((D : Int) : Rat) = ((0 : Int) : Rat) := e
    have := Rat.intCast_inj.1 this
    omega
  have hx : x ≠ 0 := fun e => by
    subst e
    have h1' : q * (D : Rat) = 0 := h1
    rcases Rat.mul_eq_zero.1 h1' with h | h
    · exact hq h
    · exact hD' h
  refine ⟨x.natAbs, by omega, h2, ?_⟩
  have key : 1 / q * (x : Rat) = (D : Rat) := by rw [← h1]; grind
  rcases Int.natAbs_eq x with e | e
  · refine ⟨(D : Int), ?_, by simp⟩
    have e' : ((x.natAbs : Nat) : Rat) = (x : Rat) := by
      have : (((x.natAbs : Nat) : Int) : Rat) = (x : Rat) := by rw [← e]
      exact this
    rw [e', key]; rfl
  · refine ⟨-(D : Int), ?_, by simp⟩
    have e' : ((x.natAbs : Nat) : Rat) = -(x : Rat) := by
      have h5 : ((x.natAbs : Nat) : Int) = -x := by omega
      have : (((x.natAbs : Nat) : Int) : Rat) = ((-x : Int) : Rat) := by rw [h5]
      rw [Rat.intCast_neg] at this
      exact this
    rw [e', Rat.mul_neg, key, Rat.intCast_neg]; rfl
theorem CV.add {D N M : Nat} {u v : V3} (hu : CV D N u) (hv : CV D M v) : CV D (N + M) (vadd u v) := ⟨hu.x.add hv.x, hu.y.add hv.y, hu.z.add hv.z⟩
theorem CV.sub {D N M : Nat} {u v : V3} (hu : CV D N u) (hv : CV D M v) : CV D (N + M) (vsub u v) := ⟨hu.x.sub hv.x, hu.y.sub hv.y, hu.z.sub hv.z⟩
theorem CV.up {D N : Nat} {v : V3} (E : Nat) (h : CV D N v) : CV (D * E) (N * E) v := ⟨h.x.up E, h.y.up E, h.z.up E⟩
theorem CV.up' {D N : Nat} {v : V3} (E : Nat) (h : CV D N v) : CV (E * D) (E * N) v := ⟨h.x.up' E, h.y.up' E, h.z.up' E⟩
theorem CV.smul {D N E M : Nat} {s : Rat} {v : V3} (hs : CD D N s) (hv : CV E M v) : CV (D * E) (N * M) (vmul s v) := ⟨hs.mul hv.x, hs.mul hv.y, hs.mul hv.z⟩
theorem CV.dot {D N E M : Nat} {u v : V3} (hu : CV D N u) (hv : CV E M v) : CD (D * E) (3 * (N * M)) (vdot u v) :=
  (((hu.x.mul hv.x).add (hu.y.mul hv.y)).add (hu.z.mul hv.z)).mono (by omega)
theorem CV.cross {D N E M : Nat} {u v : V3} (hu : CV D N u) (hv : CV E M v) : CV (D * E) (2 * (N * M)) (vcross u v) :=
  ⟨((hu.y.mul hv.z).sub (hu.z.mul hv.y)).mono (by omega), ((hu.z.mul hv.x).sub (hu.x.mul hv.z)).mono (by omega), ((hu.x.mul hv.y).sub (hu.y.mul hv.x)).mono (by omega)⟩
theorem CV.of {k : Nat} {v : V3} (h : Pn k v) : ∃ D : Nat, 0 < D ∧ D ≤ 4294967296 ^ (3 * k) ∧ CV D (4294967296 ^ (3 * k)) v := by
  obtain ⟨d1, p1, q1, c1⟩ := CD.of h.x
  obtain ⟨d2, p2, q2, c2⟩ := CD.of h.y
  obtain ⟨d3, p3, q3, c3⟩ := CD.of h.z
  have e : 4294967296 ^ (3 * k) = 4294967296 ^ k * 4294967296 ^ k * 4294967296 ^ k := by rw [← Nat.pow_add, ← Nat.pow_add]; congr 1; omega
  refine ⟨d1 * d2 * d3, Nat.mul_pos (Nat.mul_pos p1 p2) p3, ?_, ?_⟩
  · rw [e]; exact Nat.mul_le_mul (Nat.mul_le_mul q1 q2) q3
  · rw [e]
    refine ⟨((c1.up d2).up d3).mono (Nat.mul_le_mul (Nat.mul_le_mul_left _ q2) q3), ?_, ?_⟩
    · have := (c2.up' d1).up d3
      exact this.mono (Nat.mul_le_mul (Nat.mul_le_mul_right _ q1) q3)
    · have := c3.up' (d1 * d2)
      exact this.mono (Nat.mul_le_mul_right _ (Nat.mul_le_mul q1 q2))
end Go.K
end
section
namespace Go.K
open Go
structure M4 where
  x : V3
  y : V3
  z : V3
  move : V3
structure MapL where
  x : VL
  y : VL
  z : VL
  move : VL
def dMap (Ψ : (t : Sd) → STy t) (m : MapL) : List D := dV Ψ m.x ++ dV Ψ m.y ++ dV Ψ m.z ++ dV Ψ m.move
def mv (m : MapL) : M4 := ⟨vv m.x, vv m.y, vv m.z, vv m.move⟩
def cMap (Ψ : (t : Sd) → STy t) (m : M4) : MapL := ⟨Ψ .cV m.x, Ψ .cV m.y, Ψ .cV m.z, Ψ .cV m.move⟩
theorem mv_cMap (m : M4) : mv (cMap Ψ m) = m := by simp [mv, cMap, vv_cV]
theorem M4.ext_iff' {a b : M4} : a = b ↔ a.x = b.x ∧ a.y = b.y ∧ a.z = b.z ∧ a.move = b.move := by
  cases a; cases b; simp
theorem V3.mk_eq {a b c a' b' c' : Rat} (h1 : a = a') (h2 : b = b') (h3 : c = c') : (⟨a, b, c⟩ : V3) = ⟨a', b', c'⟩ := by rw [h1, h2, h3]
def idM : M4 := ⟨⟨1, 0, 0⟩, ⟨0, 1, 0⟩, ⟨0, 0, 1⟩, ⟨0, 0, 0⟩⟩
def turnS (m : M4) (d : V3) : V3 := ⟨vdot m.x d, vdot m.y d, vdot m.z d⟩
def applyS (m : M4) (p : V3) : V3 := vadd (turnS m p) m.move
def rowS (a : M4) (r : V3) : V3 := ⟨vdot r ⟨a.x.x, a.y.x, a.z.x⟩, vdot r ⟨a.x.y, a.y.y, a.z.y⟩, vdot r ⟨a.x.z, a.y.z, a.z.z⟩⟩
def thenS (a b : M4) : M4 := ⟨rowS a b.x, rowS a b.y, rowS a b.z, applyS b a.move⟩
def stretchS (p n : V3) (k : Rat) : M4 :=
  ⟨vadd ⟨1, 0, 0⟩ (vmul ((k - 1) * n.x) n), vadd ⟨0, 1, 0⟩ (vmul ((k - 1) * n.y) n), vadd ⟨0, 0, 1⟩ (vmul ((k - 1) * n.z) n), vmul (-((k - 1) * vdot p n)) n⟩
def toldS (o x y z : V3) : M4 := ⟨⟨x.x - o.x, y.x - o.x, z.x - o.x⟩, ⟨x.y - o.y, y.y - o.y, z.y - o.y⟩, ⟨x.z - o.z, y.z - o.z, z.z - o.z⟩, o⟩
def e1 : V3 := ⟨1, 0, 0⟩
def e2 : V3 := ⟨0, 1, 0⟩
def e3 : V3 := ⟨0, 0, 1⟩
theorem then_told (a b : M4) : thenS a b = toldS (applyS b (applyS a v0)) (applyS b (applyS a e1)) (applyS b (applyS a e2)) (applyS b (applyS a e3)) := by
  obtain ⟨⟨a1, a2, a3⟩, ⟨a4, a5, a6⟩, ⟨a7, a8, a9⟩, ⟨a10, a11, a12⟩⟩ := a
  obtain ⟨⟨b1, b2, b3⟩, ⟨b4, b5, b6⟩, ⟨b7, b8, b9⟩, ⟨b10, b11, b12⟩⟩ := b
  unfold thenS toldS applyS turnS rowS vdot vadd v0 e1 e2 e3
  simp only
  rw [M4.ext_iff']
  refine ⟨V3.mk_eq ?_ ?_ ?_, V3.mk_eq ?_ ?_ ?_, V3.mk_eq ?_ ?_ ?_, V3.mk_eq ?_ ?_ ?_⟩ <;> grind
def stretchedS (p n : V3) (k : Rat) (x : V3) : V3 := vadd x (vmul ((k - 1) * vdot (vsub x p) n) n)
theorem stretch_told (p n : V3) (k : Rat) : stretchS p n k = toldS (stretchedS p n k v0) (stretchedS p n k e1) (stretchedS p n k e2) (stretchedS p n k e3) := by
  obtain ⟨p1, p2, p3⟩ := p
  obtain ⟨n1, n2, n3⟩ := n
  unfold stretchS toldS stretchedS vdot vadd vsub vmul v0 e1 e2 e3
  simp only
  rw [M4.ext_iff']
  refine ⟨V3.mk_eq ?_ ?_ ?_, V3.mk_eq ?_ ?_ ?_, V3.mk_eq ?_ ?_ ?_, V3.mk_eq ?_ ?_ ?_⟩ <;> grind
end Go.K
namespace Go.K
end Go.K
end
section
namespace Go.K
open Go
structure MatL where
  kind : Int
  vals : List RL
  a : RL
  b : RL
structure FaceL where
  tri : TL
  mat : Int
structure ScL where
  waves : List RL
  mats : List MatL
  faces : List FaceL
  eye : VL
  look : VL
  w : Int
  h : Int
  half : RL
def dMat (Ψ : (t : Sd) → STy t) (m : MatL) : List D := .i .i64 m.kind :: .sl (Ψ .dRs m.vals) :: (dR Ψ m.a ++ dR Ψ m.b)
def dFace (Ψ : (t : Sd) → STy t) (f : FaceL) : List D := dT Ψ f.tri ++ [.i .i64 f.mat]
def dSc (Ψ : (t : Sd) → STy t) (MD FD : List D) (s : ScL) : List D := .sl (Ψ .dRs s.waves) :: .sl MD :: .sl FD :: (dV Ψ s.eye ++ dV Ψ s.look ++ (.i .i64 s.w :: .i .i64 s.h :: dR Ψ s.half))
def matsD (l : List MatL) : List D := l.map fun m => .agg (dMat Ψ m)
def facesD (l : List FaceL) : List D := l.map fun f => .agg (dFace Ψ f)
def rsq (q : Rat) : Option Rat := if q < 0 then none else if sq q.num.natAbs * sq q.num.natAbs = q.num.natAbs ∧ sq q.den * sq q.den = q.den then some (mkRat (sq q.num.natAbs) (sq q.den)) else none
def unitS (v : V3) : Option (V3 × Rat) := match rsq (vdot v v) with
  | none => none
  | some l => if l = 0 then none else some (vmul (1 / l) v, l)
def normS (t : T3) : V3 := vcross (vsub t.b t.a) (vsub t.c t.a)
def fitR (r : RL) : Bool := decide (r = Ψ .cr (rv r)) && (decide (bl (nv r.num) ≤ 64) && decide (bl (nv r.den) ≤ 64))
def fitV (v : VL) : Bool := fitR v.x && (fitR v.y && fitR v.z)
def fitM (m : MatL) : Bool := m.vals.all fitR && (fitR m.a && fitR m.b)
def fitF (f : FaceL) : Bool := fitV f.tri.a && (fitV f.tri.b && fitV f.tri.c)
def sizesS (s : ScL) : Bool := (s.waves.all fitR && (fitV s.eye && (fitV s.look && fitR s.half))) && (s.mats.all fitM && s.faces.all fitF)
def etaM (waves : List RL) (m : MatL) (bin : Nat) : Option Rat := match waves[bin]? with
  | none => none
  | some w => if m.kind = 2 ∧ rv w ≠ 0 then some (rv m.a + rv m.b / (rv w * rv w)) else none
def valB (waves : List RL) (m : MatL) (bin : Nat) (x : RL) : Bool :=
  !(decide (rv x < 0) || (decide (m.kind = 0) && decide (1 / 4 < rv x)) || ((decide (m.kind = 1) || decide (m.kind = 2)) && decide (1 < rv x))) && (match etaM waves m bin with | some e => decide (0 < e) | none => true)
def valsB (waves : List RL) (m : MatL) : Bool := m.vals.zipIdx.all fun x => valB waves m x.2 x.1
def matB (waves : List RL) (m : MatL) : Bool :=
  (decide (0 ≤ m.kind) && decide (m.kind < 4) && decide (m.vals.length = waves.length)) && (valsB waves m && (decide (m.kind = 2) || (decide (rv m.a = 0) && decide (rv m.b = 0))))
def faceB (n : Nat) (f : FaceL) : Bool := (unitS (normS (tv f.tri))).isSome && (decide (0 ≤ f.mat) && decide (f.mat < (n : Int)))
def viewB (s : ScL) : Bool := decide (vdot (vv s.look) (vv s.look) = 1) && (decide (1 ≤ s.w) && (decide (s.w ≤ 16) && (decide (1 ≤ s.h) && (decide (s.h ≤ 16) && decide (0 < rv s.half)))))
def manyB (s : ScL) : Bool := decide (1 ≤ s.waves.length) && (decide (s.waves.length ≤ 8) && (decide (s.mats.length ≤ 32) && (decide (1 ≤ s.faces.length) && decide (s.faces.length ≤ 64))))
def checkS (s : ScL) : Int :=
  if manyB s = false then 96 else if sizesS s = false then 97 else if (s.waves.all fun x => decide (0 < rv x)) = false then 98 else if s.mats.all (matB s.waves) = false then 98
  else if s.faces.all (faceB s.mats.length) = false then 99 else if viewB s = false then 100 else 0
structure Mtn (k : Nat) (m : MatL) : Prop where
  k1 : -9223372036854775808 ≤ m.kind
  k2 : m.kind ≤ 9223372036854775807
  l : m.vals.length ≤ k
  v : ∀ r, r ∈ m.vals → Rn k r
  a : Rn k m.a
  b : Rn k m.b
structure Fcn (k : Nat) (f : FaceL) : Prop where
  k1 : -9223372036854775808 ≤ f.mat
  k2 : f.mat ≤ 9223372036854775807
  t : Tn k f.tri
structure Scn (k : Nat) (s : ScL) : Prop where
  w1 : -9223372036854775808 ≤ s.w
  w2 : s.w ≤ 9223372036854775807
  h1 : -9223372036854775808 ≤ s.h
  h2 : s.h ≤ 9223372036854775807
  wl : s.waves.length ≤ k
  wv : ∀ r, r ∈ s.waves → Rn k r
  ml : s.mats.length ≤ k
  mv : ∀ m, m ∈ s.mats → Mtn k m
  fl : s.faces.length ≤ k
  fv : ∀ f, f ∈ s.faces → Fcn k f
  e : Vn k s.eye
  l : Vn k s.look
  hf : Rn k s.half
theorem fitR_n {r : RL} (h : fitR r = true) : Rn 2 r := by
  unfold fitR at h
  simp only [Bool.and_eq_true, decide_eq_true_eq] at h
  obtain ⟨h1, h2, h3⟩ := h
  have key : ∀ n : Nat, bl n ≤ 64 → n < 4294967296 ^ 2 := fun n hn => bl_le.1 hn
  rw [h1]
  refine Rn_cr.2 ⟨?_, ?_⟩
  · rw [h1] at h2
    have := key _ h2
    rw [p_cr] at this
    simpa [nv_cn] using this
  · rw [h1] at h3
    have := key _ h3
    rw [p_cr] at this
    simpa [nv_cn] using this
theorem fitV_n {v : VL} (h : fitV v = true) : Vn 2 v := by
  unfold fitV at h
  simp only [Bool.and_eq_true] at h
  exact ⟨fitR_n h.1, fitR_n h.2.1, fitR_n h.2.2⟩
theorem fitF_n {f : FaceL} (h : fitF f = true) : Tn 2 f.tri := by
  unfold fitF at h
  simp only [Bool.and_eq_true] at h
  exact ⟨fitV_n h.1, fitV_n h.2.1, fitV_n h.2.2⟩
end Go.K
end
section
namespace Go.K
open Go
theorem bl_top {z : List Nat} {v : Nat} (hz : lim z) (hc : cano z) (hg : z[z.length - 1]? = some v) : bl (nv z) = 32 * (z.length - 1) + bl v := by
  have h0 : 0 < z.length := by
    rcases Nat.eq_zero_or_pos z.length with h | h
    · rw [List.eq_nil_of_length_eq_zero h] at hg; cases hg
    · exact h
  have hv0 : v ≠ 0 := hc v (by rw [List.getLast?_eq_getElem?]; exact hg)
  have hs := nv_take_succ hg
  rw [show z.length - 1 + 1 = z.length by omega, List.take_length] at hs
  have h1 : nv (z.take (z.length - 1)) < 4294967296 ^ (z.length - 1) := by
    have := nv_lt (lim_take hz (z.length - 1))
    rwa [List.length_take, Nat.min_eq_left (by omega)] at this
  have hM : 4294967296 ^ (z.length - 1) = 2 ^ (32 * (z.length - 1)) := by rw [Nat.pow_mul]
  rw [hM] at hs h1
  have hdiv : nv z / 2 ^ (32 * (z.length - 1)) = v := by
    rw [hs, Nat.add_mul_div_left _ _ (Nat.pow_pos (by omega)), Nat.div_eq_of_lt h1, Nat.zero_add]
  have hge : 2 ^ (32 * (z.length - 1)) ≤ nv z := by
    rw [hs]
    have := Nat.mul_le_mul_left (2 ^ (32 * (z.length - 1))) (show 1 ≤ v by omega)
    omega
  rw [bl_div hge, hdiv]
theorem bl_half {x : Nat} (h : 0 < x) : bl x = 1 + bl (x / 2) := by
  rcases Nat.lt_or_ge x 2 with q | q
  · obtain rfl : x = 1 := by omega
    rfl
  · exact bl_div (k := 1) q
theorem nv_bit (k v : Nat) : nv (List.replicate k 0 ++ [v]) = v * 4294967296 ^ k := by
  induction k with
  | zero => simp
  | succ k ih =>
    rw [List.replicate_succ, List.cons_append, nv, ih, Nat.pow_succ]
    grind
theorem pow_bit (i : Nat) : 2 ^ (i % 32) * 4294967296 ^ (i / 32) = 2 ^ i := by
  rw [show 4294967296 = 2 ^ 32 from rfl, ← Nat.pow_mul, ← Nat.pow_add]
  congr 1; omega
def unitR (v : V3) : V3 × Rat := (unitS v).getD (v0, 0)
theorem rsq_n {k : Nat} {q l : Rat} (h : Qn k q) (hl : rsq q = some l) (hk : 0 < k) : Qn k l := by
  unfold rsq at hl
  split at hl
  · cases hl
  · split at hl
    · cases hl
      have a1 : sq q.num.natAbs ≤ q.num.natAbs := by
        have := sq_le q.num.natAbs
        generalize sq q.num.natAbs = s at *
        have := Nat.le_mul_self s
        omega
      have a2 : sq q.den ≤ q.den := by
        have := sq_le q.den
        generalize sq q.den = s at *
        have := Nat.le_mul_self s
        omega
      exact Qn_mk (by have := h.n; simp only [Int.natAbs_natCast]; omega) (by have := h.d; omega) hk
    · cases hl
theorem unit_n {k : Nat} {v : V3} (h : Pn k v) (hk : 0 < k) : Pn (7 * k + 3) (unitR v).1 ∧ Qn (6 * k + 2) (unitR v).2 := by
  unfold unitR unitS
  have hd := (Qn_dot h h (by omega)).mono (show _ ≤ 6 * k + 2 by omega)
  cases hr : rsq (vdot v v) with
  | none => exact ⟨Pn_v0 (by omega), Qn_zero (by omega)⟩
  | some l =>
    have hl := rsq_n hd hr (by omega)
    simp only
    by_cases h0 : l = 0
    · rw [if_pos h0]; exact ⟨Pn_v0 (by omega), Qn_zero (by omega)⟩
    · rw [if_neg h0]
      exact ⟨(Pn_mul (Qn_div Qn_one' hl (by omega)) h (by omega)).mono (by omega), hl⟩
end Go.K
namespace Go.K.S
open Go Go.K
set_option maxHeartbeats 4000000
set_option maxRecDepth 20000
theorem bits1_good (l : List Nat) (h : N l) : Good P F.penumbraref01_Bits [.d (dN Ψ l)] [] (.d (.i .i64 (Ω .ci (bl (nv l))))) [] := by
  refine G.penumbraref01_Bits fun C C2 hC hC2 => ?_
  have hn := h.cn
  refine nx ?_
  refine ⟨_, hC _ _ _ (norm1_good l h), ?_⟩
  have hc := cano_cn (nv l)
  have hv := nv_cn (nv l)
  generalize Ψ .cn (nv l) = z at *
  have hz := hn.len
  refine nx ?_
  refine BrG.split (fun h => ?_) (fun h => ?_)
  · have h0 : z.length = 0 := by simpa [wz] using h
    have : z = [] := List.eq_nil_of_length_eq_zero h0
    subst this
    refine nx ?_
    rw [← hv]
    rfl
  · have h0 : z.length ≠ 0 := by simpa [wz] using h
    obtain ⟨v, hg⟩ : ∃ v, z[z.length - 1]? = some v := ⟨_, List.getElem?_eq_getElem (by omega)⟩
    have ht := bl_top hn.lim hc hg
    rw [hv] at ht
    have hlt := lim_get hn.lim hg
    have hv32 : bl v ≤ 32 := bl_le.2 hlt
    generalize bl (nv l) = T at *
    refine nx ?_
    refine idx_lims (z.length - 1) v (wrap_pred (by omega) (by omega)) hg rfl ?_
    refine nx ?_
    rw [wrap_pred (by omega) (by omega), show (32 : Int) = Ω .ci 32 from rfl, ci_mul, wrap_ci (by omega)]
    refine LoopG.intro (σ := Nat × Nat) [4, 5] [] (fun s => [.d (.i .i64 (Ω .ci s.1)), .d (.i .u32 (Ω .ci s.2))]) (fun _ => [])
      (fun s => s.1 + bl s.2 = T ∧ s.2 < 4294967296) (fun s => s.2) (32 * (z.length - 1), v) [] ⟨by simp only; omega, hlt⟩ ⟨rfl, rfl, rfl⟩ ?_
    rintro ⟨n, x⟩ ⟨h1, h2⟩
    simp only at h1 h2
    refine nx ?_
    refine BrG.split (fun h => ?_) (fun h => ?_)
    · have hx : 0 < x := by have := h; simp only [wz] at this; omega
      have hh := bl_half hx
      refine nx ?_
      refine ⟨(n + 1, x / 2), [], ⟨by simp only; omega, by simp only; omega⟩, by simp only; omega, rfl, ?_, rfl⟩
      refine Eq.trans (b := [.d (.i .i64 _), .d (.i .u32 _)]) rfl ?_
      rw [wrap_succ (by omega), show (2 : Int) = Ω .ci 2 from rfl, tdiv_ci, wrapu32_ci, Nat.mod_eq_of_lt (by omega)]
    · have hx : x = 0 := by have := h; simp only [wz] at this; omega
      subst hx
      have : n = T := by rw [bl_zero] at h1; omega
      subst this
      exact nx trivial
theorem sqrt2_good (a : List Nat) (ha : N a) (hl : a.length ≤ 4096) :
    Good P F.penumbraref02_Sqrt [.d (dN Ψ a)] [] (.tup [.d (dN Ψ (Ψ .cn (sq (nv a)))), .d (.b (decide (sq (nv a) * sq (nv a) = nv a)))]) [] := by
  refine G.penumbraref02_Sqrt fun C C2 hC hC2 => ?_
  obtain ⟨m, hm, hm2⟩ : ∃ m, a.length ≤ m ∧ m ≤ 4096 := ⟨4096, hl, Nat.le_refl _⟩
  have hp2 : ∀ k, (4294967296 : Nat) ^ k = 2 ^ (32 * k) := fun k => by rw [show (4294967296 : Nat) = 2 ^ 32 from rfl, ← Nat.pow_mul]
  have hM : nv a < 4294967296 ^ m := Nat.lt_of_lt_of_le (nv_lt ha.lim) (B_mono hm)
  have g1 := bits1_good a ha
  have hbm : bl (nv a) ≤ 32 * m := bl_le.2 (by rw [← hp2]; exact hM)
  have hst := bitw_start (bl_lt (nv a))
  have gc := fun x : Nat => fun h : x < 4294967296 ^ (2 * m + 10) => cmp1_good (Ψ .cn x) a ⟨lim_cn _, by have := len_cn.2 h; omega⟩ ha
  generalize hn : nv a = n at *
  refine nx ?_
  refine ⟨_, hC _ _ _ g1, ?_⟩
  refine nx ?_
  rw [show Ω .wrap .i64 ((Ω .wrap .i64 (Ω .ci (bl n) + 1)).tdiv 2) = Ω .ci ((bl n + 1) / 2) by
    rw [wrap_succ (by omega), show (2 : Int) = Ω .ci 2 from rfl, w_ci, w_ci, ← Int.ofNat_tdiv, ← w_ci, wrap_ci (by omega)]]
  have hi0 : (bl n + 1) / 2 ≤ 16 * m + 1 := by clear hM gc; omega
  refine LoopG.intro2 (σ := Option Bool × Nat × Nat) [0, 4, 5] (fun s => match s.1 with | some _ => [1050] | none => [])
    (fun s => [.d (dN Ψ a), match s.1 with | some _ => .own 1050 1 | none => .d (dN Ψ (Ψ .cn s.2.1)), .d (.i .i64 (Ω .wrap .i64 (Ω .ci s.2.2 - 1)))]) (fun s => match s.1 with | some b => [.row b T.uint32 1 []] | none => [])
    (fun s => (s.1 ≠ none → s.2.1 = 0) ∧ Bitw n s.2.1 s.2.2 ∧ s.2.2 ≤ 16 * m + 2) (fun s => s.2.2) (some true, 0, (bl n + 1) / 2 + 1) [1100] ⟨fun _ => rfl, hst, by simp only; omega⟩ ⟨rfl, ?_, rfl⟩ ?_
  · refine Eq.trans (b := [.d (dN Ψ a), .own 1050 1, .d (.i .i64 _)]) rfl ?_
    simp only [wrap_pred (n := (bl n + 1) / 2 + 1) (by omega) (by omega)]
    rfl
  rintro ⟨fr, x, i⟩ ⟨hfr, hw, hi⟩
  simp only at hfr hw hi
  have hxn : x * x ≤ n := hw.1
  have hxb : x < 4294967296 ^ (m + 1) := by
    rcases Nat.lt_or_ge x (4294967296 ^ (m + 1)) with q | q
    · exact q
    · have h1 := Nat.mul_le_mul q q
      have h2 : 4294967296 ^ m ≤ 4294967296 ^ (m + 1) * 4294967296 ^ (m + 1) := by rw [← Nat.pow_add]; exact B_mono (by omega)
      have h3 := Nat.lt_of_lt_of_le hM h2
      have h4 := Nat.lt_of_lt_of_le h3 h1
      exact absurd (Nat.lt_of_lt_of_le h4 hxn) (Nat.lt_irrefl _)
  have hNx : N (Ψ .cn x) ∧ (Ψ .cn x).length ≤ m + 1 := ⟨⟨lim_cn _, by have := len_cn.2 hxb; omega⟩, len_cn.2 hxb⟩
  rcases Nat.eq_zero_or_pos i with hi0 | hi0
  · subst hi0
    rw [bitw_end hw]
    have gm := mul1_good (Ψ .cn x) (Ψ .cn x) hNx.1 hNx.1 (by omega) (by omega)
    rw [nv_cn] at gm
    have hxx : x * x < 4294967296 ^ (2 * m + 10) := Nat.lt_of_lt_of_le (lt_mul_pow hxb hxb) (B_mono (by omega))
    have gk := gc _ hxx
    rw [nv_cn] at gk
    have hc0 := @cmpI_zero (x * x) n
    have hd : decide (x * x = n) = Ω .eq (Ψ .cmpI (x * x) n) 0 := by
      rw [w_eq]
      by_cases c : x * x = n
      · rw [decide_eq_true c, hc0.2 c]; rfl
      · rw [decide_eq_false c]; exact (beq_eq_false_iff_ne.2 (mt hc0.1 c)).symm
    rw [hd]
    clear hd
    generalize Ψ .cmpI (x * x) n = c at *
    have hq : Ω .le 0 (Ω .wrap .i64 (Ω .ci 0 - 1)) = false := by
      rw [wrap64 (by simp only [wz]; omega) (by simp only [wz]; omega)]; simp only [wz]; omega
    generalize Ω .wrap .i64 (Ω .ci 0 - 1) = w at *
    cases fr with
    | none =>
      cases hcc : Ω .eq c 0
      all_goals exact rq trivial
    | some b =>
      have hx0 := hfr (fun h => nomatch h)
      subst hx0
      rw [Nat.mul_zero] at gm gk
      rw [cn_zero] at gm gk ⊢
      cases hcc : Ω .eq c 0
      all_goals
        refine rq ?_
        rfl
  obtain ⟨j, rfl⟩ : ∃ j, i = j + 1 := ⟨i - 1, by omega⟩
  have hk1 : Ω .wrap .i64 (Ω .ci (j + 1) - 1) = Ω .ci j := wrap_pred (by omega) (by omega)
  have hlb : lim (List.replicate (j / 32) 0 ++ [2 ^ (j % 32)]) := by
    intro v hv
    rcases List.mem_append.1 hv with h | h
    · rw [List.eq_of_mem_replicate h]; omega
    · rw [List.mem_singleton.1 h]
      exact Nat.lt_of_lt_of_le (Nat.pow_lt_pow_right (by omega) (Nat.mod_lt _ (by omega))) (Nat.le_of_eq (show (2 : Nat) ^ 32 = 4294967296 from rfl))
  have hvb : nv (List.replicate (j / 32) 0 ++ [2 ^ (j % 32)]) = 2 ^ j := by rw [nv_bit, pow_bit]
  have hlen : (List.replicate (j / 32) 0 ++ [2 ^ (j % 32)]).length = j / 32 + 1 := by simp
  have hjl : j / 32 + 1 ≤ m + 2 := by clear hM hxn hxb hw gc; omega
  have ga := add1_good (Ψ .cn x) (List.replicate (j / 32) 0 ++ [2 ^ (j % 32)]) hNx.1 ⟨hlb, by omega⟩ (by omega) (by omega)
  rw [nv_cn, hvb] at ga
  have hjb : 2 ^ j < 4294967296 ^ (m + 2) := by rw [← hvb]; exact Nat.lt_of_lt_of_le (nv_lt hlb) (B_mono (by omega))
  have hyb : x + 2 ^ j < 4294967296 ^ (m + 3) := by
    have h2 := Nat.pow_lt_pow_right (show 1 < 4294967296 by omega) (show m + 1 < m + 2 by omega)
    have h3 : 4294967296 ^ (m + 3) = 4294967296 ^ (m + 2) * 4294967296 := Nat.pow_succ _ _
    omega
  have hNy : N (Ψ .cn (x + 2 ^ j)) ∧ (Ψ .cn (x + 2 ^ j)).length ≤ m + 3 := ⟨⟨lim_cn _, by have := len_cn.2 hyb; omega⟩, len_cn.2 hyb⟩
  have gm := mul1_good (Ψ .cn (x + 2 ^ j)) (Ψ .cn (x + 2 ^ j)) hNy.1 hNy.1 (by omega) (by omega)
  rw [nv_cn] at gm
  have hyy : (x + 2 ^ j) * (x + 2 ^ j) < 4294967296 ^ (2 * m + 10) := Nat.lt_of_lt_of_le (lt_mul_pow hyb hyb) (B_mono (by omega))
  have gk := gc _ hyy
  rw [nv_cn] at gk
  have hci := @cmpI_pos ((x + 2 ^ j) * (x + 2 ^ j)) n
  have ny := bitw_yes hw
  have nn := bitw_no hw
  clear hyy hyb hjb hxb hM gc
  generalize (x + 2 ^ j) * (x + 2 ^ j) = yy at *
  generalize x + 2 ^ j = y at *
  generalize Ψ .cmpI yy n = c at *
  have hr : j % 32 < 32 := Nat.mod_lt _ (by omega)
  have hsh : Ω .ishl .u32 1 (Ω .wrap .u64 (Ω .tmod (Ω .ci j) 32)) = Ω .ci (2 ^ (j % 32)) := by
    rw [show (32 : Int) = Ω .ci 32 from rfl, tmod_ci, wrapu64_ci, Nat.mod_eq_of_lt (show j % 32 < 18446744073709551616 by omega), show (1 : Int) = Ω .ci 1 from rfl, ishl_ci _ _ _ (by show j % 32 ≤ 32; omega), Nat.one_mul, wrapu32_ci,
      Nat.mod_eq_of_lt (Nat.lt_of_lt_of_le (Nat.pow_lt_pow_right (by omega) hr) (Nat.le_of_eq (show (2 : Nat) ^ 32 = 4294967296 from rfl)))]
  have hs0 : Ω .ile 0 (Ω .wrap .u64 (Ω .tmod (Ω .ci j) 32)) := by
    rw [show (32 : Int) = Ω .ci 32 from rfl, tmod_ci, wrapu64_ci]; exact ci_nonneg _
  have hq : Ω .le 0 (Ω .ci j) = true := by simp only [wz]; omega
  have hq2 : Ω .le c 0 = decide (c ≤ 0) := rfl
  have hc9 : ¬ 0 < c ↔ c ≤ 0 := by omega
  have ht : Ω .wrap .i64 ((Ω .ci j).tdiv 32) = Ω .ci (j / 32) := by rw [show (32 : Int) = Ω .ci 32 from rfl, tdiv_ci, wrap_ci (by omega)]
  have hj9 : j / 32 ≤ 4100 := by omega
  generalize 2 ^ (j % 32) = v at *
  cases fr with
  | none =>
    refine nx ?_
    simp only [hk1]
    refine BrG.yes hq ?_
    refine nx ?_
    rw [ht, hsh]
    refine ⟨ci_nonneg _, Int.le_refl _, by simp only [wz]; omega, by simp only [wz]; omega, hs0, ?_⟩
    rw [tn_ci, srep_lims]
    refine ⟨fun u hu => by simp only [List.mem_cons, List.not_mem_nil, or_false] at hu; rcases hu with rfl; rfl, (by simp only [wz, List.length_replicate]; omega), ?_⟩
    rw [lims_nil, lims_cons, scat_lims]
    refine ⟨_, hC _ _ _ ga, ?_⟩
    refine nx ?_
    refine ⟨_, hC _ _ _ gm, ?_⟩
    refine nx ?_
    refine ⟨_, hC _ _ _ gk, ?_⟩
    refine nx ?_
    refine BrG.split (fun h => ?_) (fun h => ?_)
    · have h1 : c ≤ 0 := by have := h; simp only [wz] at this; omega
      have h2 : yy ≤ n := by have := mt hci.2; omega
      refine nx ?_
      exact ⟨(none, y, j), [], ⟨fun h => absurd rfl h, ny h2, by simp only; omega⟩, by simp only; omega, rfl, rfl, rfl⟩
    · have h1 : 0 < c := by have := h; simp only [wz] at this; omega
      have h2 : ¬ yy ≤ n := by have := hci.1 h1; omega
      refine nx ?_
      exact ⟨(none, x, j), [], ⟨fun h => absurd rfl h, nn h2, by simp only; omega⟩, by simp only; omega, rfl, rfl, rfl⟩
  | some b =>
    have hx0 := hfr (fun h => nomatch h)
    subst hx0
    rw [cn_zero] at ga
    refine nx ?_
    simp only [hk1]
    refine BrG.yes hq ?_
    refine nx ?_
    rw [ht, hsh]
    refine ⟨ci_nonneg _, Int.le_refl _, by simp only [wz]; omega, by simp only [wz]; omega, hs0, ?_⟩
    rw [tn_ci, srep_lims]
    refine ⟨fun u hu => by simp only [List.mem_cons, List.not_mem_nil, or_false] at hu; rcases hu with rfl; rfl, (by simp only [wz, List.length_replicate]; omega), ?_⟩
    rw [lims_nil, lims_cons, scat_lims]
    refine ⟨_, hC _ _ _ ga, ?_⟩
    refine nx ?_
    refine ⟨_, hC _ _ _ gm, ?_⟩
    refine nx ?_
    refine ⟨_, hC _ _ _ gk, ?_⟩
    refine nx ?_
    refine BrG.split (fun h => ?_) (fun h => ?_)
    · have h1 : c ≤ 0 := by have := h; simp only [wz] at this; omega
      have h2 : yy ≤ n := by have := mt hci.2; omega
      refine nx ?_
      exact ⟨(none, y, j), [], ⟨fun h => absurd rfl h, ny h2, by simp only; omega⟩, by simp only; omega, rfl, rfl, rfl⟩
    · have h1 : 0 < c := by have := h; simp only [wz] at this; omega
      have h2 : ¬ yy ≤ n := by have := hci.1 h1; omega
      refine nx ?_
      exact ⟨(some false, 0, j), [1050], ⟨fun _ => rfl, nn h2, by simp only; omega⟩, by simp only; omega, rfl, rfl, rfl⟩
end Go.K.S
end
section
namespace Go.K
open Go
theorem sqrt_parts (q : Rat) : (rsq q).getD 0 = if decide (sq q.num.natAbs * sq q.num.natAbs = q.num.natAbs) && (decide (sq q.den * sq q.den = q.den) && !decide (q.num < 0)) then mkRat (sg false (sq q.num.natAbs)) (sq q.den) else 0 := by
  unfold rsq
  have hn : q < 0 ↔ q.num < 0 := by
    rw [← Rat.not_le, ← Rat.num_nonneg]; omega
  by_cases h0 : q.num < 0
  · rw [if_pos (hn.2 h0), decide_eq_true h0]; simp
  · rw [if_neg (mt hn.1 h0), decide_eq_false h0]
    by_cases h1 : sq q.num.natAbs * sq q.num.natAbs = q.num.natAbs <;> by_cases h2 : sq q.den * sq q.den = q.den <;> simp [h1, h2, sg]
theorem sqrt_is (q : Rat) : (rsq q).isSome = (decide (sq q.num.natAbs * sq q.num.natAbs = q.num.natAbs) && (decide (sq q.den * sq q.den = q.den) && !decide (q.num < 0))) := by
  unfold rsq
  have hn : q < 0 ↔ q.num < 0 := by
    rw [← Rat.not_le, ← Rat.num_nonneg]; omega
  by_cases h0 : q.num < 0
  · rw [if_pos (hn.2 h0), decide_eq_true h0]; simp
  · rw [if_neg (mt hn.1 h0), decide_eq_false h0]
    by_cases h1 : sq q.num.natAbs * sq q.num.natAbs = q.num.natAbs <;> by_cases h2 : sq q.den * sq q.den = q.den <;> simp [h1, h2]
theorem unitR_eq (v : V3) : unitR v = if (rsq (vdot v v)).isSome && decide ((rsq (vdot v v)).getD 0 ≠ 0) then (vmul (1 / (rsq (vdot v v)).getD 0) v, (rsq (vdot v v)).getD 0) else (v0, 0) := by
  unfold unitR unitS
  cases rsq (vdot v v) with
  | none => rfl
  | some l =>
    simp only [Option.isSome_some, Option.getD_some, Bool.true_and]
    by_cases h : l = 0
    · rw [if_pos h, if_neg (by simp [h])]; rfl
    · rw [if_neg h, if_pos (by simp [h])]; rfl
theorem unitS_is (v : V3) : (unitS v).isSome = ((rsq (vdot v v)).isSome && decide ((rsq (vdot v v)).getD 0 ≠ 0)) := by
  unfold unitS
  cases rsq (vdot v v) with
  | none => rfl
  | some l =>
    simp only [Option.isSome_some, Option.getD_some, Bool.true_and]
    by_cases h : l = 0
    · rw [if_pos h, decide_eq_false (by simp [h])]; rfl
    · rw [if_neg h, decide_eq_true h]; rfl
theorem Pn_norm {k : Nat} {t : T3} (h : Pn k t.a ∧ Pn k t.b ∧ Pn k t.c) (hk : 0 < k) : Pn (8 * k + 5) (normS t) :=
  (Pn_cross (Pn_sub h.2.1 h.1) (Pn_sub h.2.2 h.1) (by omega)).mono (by omega)
theorem T3n {k : Nat} {t : TL} (h : Tn k t) (hk : 0 < k) : Pn k (tv t).a ∧ Pn k (tv t).b ∧ Pn k (tv t).c := ⟨Pn_vv h.a hk, Pn_vv h.b hk, Pn_vv h.c hk⟩
end Go.K
namespace Go.K.S
open Go Go.K
set_option maxHeartbeats 4000000
set_option maxRecDepth 20000
theorem rsqrt_good (r : RL) {k : Nat} (h : Rn k r) (hk0 : 0 < k) (hk : k ≤ 4096) :
    Good P F.rat_Sqrt [.d (.agg (dR Ψ r))] [] (.tup [.d (.agg (dR Ψ (Ψ .cr ((rsq (rv r)).getD 0)))), .d (.b (rsq (rv r)).isSome)]) [] := by
  refine G.rat_Sqrt fun C C2 hC hC2 => ?_
  have g1 := read_good r h (by omega)
  have qn := Qn_rv h hk0
  rw [sqrt_parts, sqrt_is]
  generalize rv r = q at *
  have l1 := len_cn.2 qn.n
  have l2 := len_cn.2 qn.d
  have g2 := root_good (Ψ .cn q.num.natAbs) ⟨lim_cn _, by omega⟩ (by omega)
  have g3 := root_good (Ψ .cn q.den) ⟨lim_cn _, by omega⟩ (by omega)
  rw [nv_cn] at g2 g3
  have a1 := sq_le q.num.natAbs
  have a2 := sq_le q.den
  have b1 : sq q.num.natAbs < 4294967296 ^ k := Nat.lt_of_le_of_lt (Nat.le_trans (Nat.le_mul_self _) a1) qn.n
  have b2 : sq q.den < 4294967296 ^ k := Nat.lt_of_le_of_lt (Nat.le_trans (Nat.le_mul_self _) a2) qn.d
  have c1 := len_cn.2 b1
  have c2 := len_cn.2 b2
  have g4 := made_good false (Ψ .cn (sq q.num.natAbs)) (Ψ .cn (sq q.den)) ⟨lim_cn _, by omega⟩ ⟨lim_cn _, by omega⟩ (by omega) (by omega)
  rw [nv_cn, nv_cn] at g4
  have ec : Ψ .cr q = ⟨decide (q.num < 0), Ψ .cn q.num.natAbs, Ψ .cn q.den⟩ := rfl
  rw [ec] at g1
  have e0 := cr_zero
  clear a1 a2 b1 b2 c1 c2 l1 l2 qn ec
  generalize decide (sq q.num.natAbs * sq q.num.natAbs = q.num.natAbs) = t1 at *
  generalize decide (sq q.den * sq q.den = q.den) = t2 at *
  generalize decide (q.num < 0) = t3 at *
  generalize mkRat (sg false (sq q.num.natAbs)) (sq q.den) = w at *
  have g5 := one_good
  cases t1 <;> cases t2 <;> cases t3
  all_goals
    simp only [Bool.and_true, Bool.and_false, Bool.true_and, Bool.false_and, Bool.not_true, Bool.not_false, if_true, Bool.false_eq_true, if_false, e0]
    first | exact rq trivial | (refine rq ?_; rfl)
theorem vunit_good (v : VL) {k : Nat} (h : Vn k v) (hk0 : 0 < k) (hk : k ≤ 600) :
    Good P F.vec_Unit [.d (.agg (dV Ψ v))] [] (.tup [.d (.agg (dV Ψ (Ψ .cV (unitR (vv v)).1))), .d (.agg (dR Ψ (Ψ .cr (unitR (vv v)).2))), .d (.b (unitS (vv v)).isSome)]) [] := by
  refine G.vec_Unit fun C C2 hC hC2 => ?_
  have g1 := vdot_good v v h h hk0 (by omega)
  have qd := (Qn_dot (Pn_vv h hk0) (Pn_vv h hk0) (by omega)).mono (show _ ≤ 6 * k + 2 by omega)
  have g2 := rsqrt_good (Ψ .cr (vdot (vv v) (vv v))) (Rn_cr.2 qd) (by omega) (by omega)
  rw [rv_cr] at g2
  have ql : Qn (6 * k + 2) ((rsq (vdot (vv v) (vv v))).getD 0) := by
    cases hr : rsq (vdot (vv v) (vv v)) with
    | none => exact Qn_zero (by omega)
    | some l => exact rsq_n qd hr (by omega)
  have g3 := of11_good
  have g4 := rdiv_good (Ψ .cr 1) (Ψ .cr ((rsq (vdot (vv v) (vv v))).getD 0)) (Rn_cr.2 Qn_one') (Rn_cr.2 ql) (by omega) (by omega) (by omega) (by omega)
  rw [rv_cr, rv_cr] at g4
  rw [unitR_eq, unitS_is]
  have g5 := of01_good
  have g6 := vof_good 0 0 0 (by omega) (by omega) (by omega) (by omega) (by omega) (by omega)
  have e0 : (⟨((0 : Int) : Rat), ((0 : Int) : Rat), ((0 : Int) : Rat)⟩ : V3) = v0 := rfl
  rw [e0] at g6
  generalize hL : (rsq (vdot (vv v) (vv v))).getD 0 = L at *
  generalize (rsq (vdot (vv v) (vv v))).isSome = ok at *
  by_cases hz : L = 0
  · have e1 : decide (L ≠ 0) = false := decide_eq_false (fun h => h hz)
    rw [e1] at g4 ⊢
    clear e1 hL hz
    generalize Ψ .cr (1 / L) = K at *
    cases ok
    all_goals
      simp only [Bool.and_false, Bool.false_eq_true, if_false]
      exact rq trivial
  · have e1 : decide (L ≠ 0) = true := decide_eq_true hz
    rw [e1] at g4 ⊢
    have qk := (Qn_div Qn_one' ql (by omega)).mono (show _ ≤ 6 * k + 3 by omega)
    have g7 := vscale_good (Ψ .cr (1 / L)) v (Rn_cr.2 qk) (h.mono (show k ≤ 6 * k + 3 by omega)) (by omega) (by omega)
    rw [rv_cr] at g7
    clear e1 hL
    cases ok
    · simp only [Bool.and_true, Bool.false_eq_true, if_false]
      exact rq trivial
    · simp only [Bool.and_true, if_true]
      exact rq trivial
theorem tnormal_good (t : TL) {k : Nat} (h : Tn k t) (hk : 0 < k) (hk2 : k < 4294967296) :
    Good P F.tri_Normal [.d (.agg (dT Ψ t))] [] (.d (.agg (dV Ψ (Ψ .cV (normS (tv t)))))) [] := by
  refine G.tri_Normal fun C C2 hC hC2 => ?_
  have g1 := sides_good t h hk (by omega)
  have pb := Pn_sub (Pn_vv h.b hk) (Pn_vv h.a hk)
  have pc := Pn_sub (Pn_vv h.c hk) (Pn_vv h.a hk)
  have g2 := vcross_good _ _ (Vn_cV pb) (Vn_cV pc) (by omega) (by omega)
  rw [vv_cV, vv_cV] at g2
  have e : normS (tv t) = vcross (vsub (vv t.b) (vv t.a)) (vsub (vv t.c) (vv t.a)) := rfl
  rw [e]
  exact rq trivial
theorem of12_good : Good P F.rat_Of [.d (.i .i64 1), .d (.i .i64 2)] [] (.d (.agg (dR Ψ (Ψ .cr (1 / 2))))) [] := by
  have g := rof_good 1 2 (by omega) (by omega) (by omega) (by omega)
  exact g
theorem tunit_good (t : TL) {k : Nat} (h : Tn k t) (hk : 0 < k) (hk2 : k ≤ 70) :
    Good P F.tri_Unit [.d (.agg (dT Ψ t))] [] (.tup [.d (.agg (dV Ψ (Ψ .cV (unitR (normS (tv t))).1))), .d (.agg (dR Ψ (Ψ .cr ((unitR (normS (tv t))).2 * (1 / 2))))), .d (.b (unitS (normS (tv t))).isSome)]) [] := by
  refine G.tri_Unit fun C C2 hC hC2 => ?_
  have g1 := tnormal_good t h hk (by omega)
  have pn := Pn_norm (T3n h hk) hk
  have g2 := vunit_good (Ψ .cV (normS (tv t))) (Vn_cV pn) (by omega) (by omega)
  rw [vv_cV] at g2
  have qu := (unit_n pn (by omega)).2
  have g3 := of12_good
  have qh : Qn 2 ((1 : Rat) / 2) := ⟨by decide +kernel, by decide +kernel⟩
  have g4 := prod2_good (Ψ .cr (unitR (normS (tv t))).2) (Ψ .cr (1 / 2)) (k := 6 * (8 * k + 5) + 2) (Rn_cr.2 qu) (Rn_cr.2 (qh.mono (by omega))) (by omega) (by omega)
  rw [rv_cr, rv_cr] at g4
  clear qh
  generalize Ψ .cr ((unitR (normS (tv t))).2 * (1 / 2)) = A at *
  generalize Ψ .cr (1 / 2) = H at *
  generalize (unitS (normS (tv t))).isSome = ok at *
  generalize Ψ .cV (unitR (normS (tv t))).1 = U at *
  generalize Ψ .cr (unitR (normS (tv t))).2 = L at *
  exact rq trivial
theorem check3_good (r : RL) {k : Nat} (h : Rn k r) (hk0 : 0 < k) (hk : k < 137438953472) : Good P F.penumbraref03_Check [.d (.agg (dR Ψ r))] [] (.d (.b (decide (r = Ψ .cr (rv r))))) [] := by
  refine G.penumbraref03_Check fun C C2 hC hC2 => ?_
  have g1 := read3_good r h hk
  have g2 := is3_good (Ψ .cr (rv r)) r (Rn_cr.2 (Qn_rv h hk0)) h (by omega) (by omega)
  have e : decide (Ψ .cr (rv r) = r) = decide (r = Ψ .cr (rv r)) := decide_eq_decide.2 ⟨fun h => h.symm, fun h => h.symm⟩
  rw [e] at g2
  generalize decide (r = Ψ .cr (rv r)) = R at *
  exact rq trivial
theorem sqrt3_good (r : RL) {k : Nat} (h : Rn k r) (hk0 : 0 < k) (hk : k ≤ 4096) :
    Good P F.penumbraref03_Sqrt [.d (.agg (dR Ψ r))] [] (.tup [.d (.agg (dR Ψ (Ψ .cr ((rsq (rv r)).getD 0)))), .d (.b (rsq (rv r)).isSome)]) [] := by
  refine G.penumbraref03_Sqrt fun C C2 hC hC2 => ?_
  have g1 := read3_good r h (by omega)
  have qn := Qn_rv h hk0
  rw [sqrt_parts, sqrt_is]
  generalize rv r = q at *
  have l1 := len_cn.2 qn.n
  have l2 := len_cn.2 qn.d
  have g2 := sqrt2_good (Ψ .cn q.num.natAbs) ⟨lim_cn _, by omega⟩ (by omega)
  have g3 := sqrt2_good (Ψ .cn q.den) ⟨lim_cn _, by omega⟩ (by omega)
  rw [nv_cn] at g2 g3
  have a1 := sq_le q.num.natAbs
  have a2 := sq_le q.den
  have b1 : sq q.num.natAbs < 4294967296 ^ k := Nat.lt_of_le_of_lt (Nat.le_trans (Nat.le_mul_self _) a1) qn.n
  have b2 : sq q.den < 4294967296 ^ k := Nat.lt_of_le_of_lt (Nat.le_trans (Nat.le_mul_self _) a2) qn.d
  have c1 := len_cn.2 b1
  have c2 := len_cn.2 b2
  have g4 := read3_good ⟨false, Ψ .cn (sq q.num.natAbs), Ψ .cn (sq q.den)⟩ (k := k) ⟨lim_cn _, lim_cn _, c1, c2⟩ (by omega)
  rw [rv_mk, nv_cn, nv_cn] at g4
  have ec : Ψ .cr q = ⟨decide (q.num < 0), Ψ .cn q.num.natAbs, Ψ .cn q.den⟩ := rfl
  rw [ec] at g1
  clear a1 a2 b1 b2 c1 c2 l1 l2 qn ec
  generalize decide (sq q.num.natAbs * sq q.num.natAbs = q.num.natAbs) = t1 at *
  generalize decide (sq q.den * sq q.den = q.den) = t2 at *
  generalize decide (q.num < 0) = t3 at *
  generalize mkRat (sg false (sq q.num.natAbs)) (sq q.den) = w at *
  have g5 := zero3_good
  cases t1 <;> cases t2 <;> cases t3
  all_goals
    simp only [Bool.and_true, Bool.and_false, Bool.true_and, Bool.false_and, Bool.not_true, Bool.not_false, if_true, Bool.false_eq_true, if_false]
    exact rq trivial
theorem unit5_good (v : VL) {k : Nat} (h : Vn k v) (hk0 : 0 < k) (hk : k ≤ 600) :
    Good P F.penumbraref05_Unit [.d (.agg (dV Ψ v))] [] (.tup [.d (.agg (dV Ψ (Ψ .cV (unitR (vv v)).1))), .d (.agg (dR Ψ (Ψ .cr (unitR (vv v)).2))), .d (.b (unitS (vv v)).isSome)]) [] := by
  refine G.penumbraref05_Unit fun C C2 hC hC2 => ?_
  have g1 := dot5_good v v h h hk0 hk0 (by omega) (by omega)
  have qd := (Qn_dot (Pn_vv h hk0) (Pn_vv h hk0) (by omega)).mono (show _ ≤ 6 * k + 2 by omega)
  have g2 := sqrt3_good (Ψ .cr (vdot (vv v) (vv v))) (Rn_cr.2 qd) (by omega) (by omega)
  rw [rv_cr] at g2
  have ql : Qn (6 * k + 2) ((rsq (vdot (vv v) (vv v))).getD 0) := by
    cases hr : rsq (vdot (vv v) (vv v)) with
    | none => exact Qn_zero (by omega)
    | some l => exact rsq_n qd hr (by omega)
  have g3 := one3_good
  have g4 := over3_good (Ψ .cr 1) (Ψ .cr ((rsq (vdot (vv v) (vv v))).getD 0)) (Rn_cr.2 Qn_one') (Rn_cr.2 ql) (by omega) (by omega)
  rw [rv_cr, rv_cr] at g4
  have g8 := sign3_good (Ψ .cr ((rsq (vdot (vv v) (vv v))).getD 0)) (Rn_cr.2 ql) (by omega)
  rw [rv_cr] at g8
  rw [unitR_eq, unitS_is]
  have g5 := zero3_good
  have g6 := zero5_good
  generalize hL : (rsq (vdot (vv v) (vv v))).getD 0 = L at *
  generalize (rsq (vdot (vv v) (vv v))).isSome = ok at *
  have zs := @sI_zero L
  generalize Ψ .sI L = s at *
  by_cases hz : L = 0
  · have e1 : decide (L ≠ 0) = false := decide_eq_false (fun h => h hz)
    have q1 := eq_true'.2 (zs.2 hz)
    rw [e1]
    clear e1 hL hz
    cases ok
    all_goals
      simp only [Bool.and_false, Bool.false_eq_true, if_false]
      exact rq trivial
  · have e1 : decide (L ≠ 0) = true := decide_eq_true hz
    have q1 := eq_false'.2 (mt zs.1 hz)
    rw [e1]
    have qk := (Qn_div Qn_one' ql (by omega)).mono (show _ ≤ 6 * k + 3 by omega)
    have g7 := scale5_good (Ψ .cr (1 / L)) v (Rn_cr.2 qk) (h.mono (show k ≤ 6 * k + 3 by omega)) (by omega)
    rw [rv_cr] at g7
    clear e1 hL
    cases ok
    · simp only [Bool.and_true, Bool.false_eq_true, if_false]
      exact rq trivial
    · simp only [Bool.and_true, if_true]
      exact rq trivial
theorem of312_good : Good P F.penumbraref03_Of [.d (.i .i64 1), .d (.i .i64 2)] [] (.d (.agg (dR Ψ (Ψ .cr (1 / 2))))) [] := by
  have g := of3_good 1 2 (by omega) (by omega) (by omega) (by omega)
  exact g
theorem unit8_good (t : TL) {k : Nat} (h : Tn k t) (hk : 0 < k) (hk2 : k ≤ 70) :
    Good P F.penumbraref08_Unit [.d (.agg (dT Ψ t))] [] (.tup [.d (.agg (dV Ψ (Ψ .cV (unitR (normS (tv t))).1))), .d (.agg (dR Ψ (Ψ .cr ((unitR (normS (tv t))).2 * (1 / 2))))), .d (.b (unitS (normS (tv t))).isSome)]) [] := by
  refine G.penumbraref08_Unit fun C C2 hC hC2 => ?_
  have g1 := normal8_good t h hk (by omega)
  have e : vcross (vsub (vv t.b) (vv t.a)) (vsub (vv t.c) (vv t.a)) = normS (tv t) := rfl
  rw [e] at g1
  have pn := Pn_norm (T3n h hk) hk
  have g2 := unit5_good (Ψ .cV (normS (tv t))) (Vn_cV pn) (by omega) (by omega)
  rw [vv_cV] at g2
  have qu := (unit_n pn (by omega)).2
  have g3 := of312_good
  have qh : Qn 2 ((1 : Rat) / 2) := ⟨by decide +kernel, by decide +kernel⟩
  have g4 := mul3_good (Ψ .cr (unitR (normS (tv t))).2) (Ψ .cr (1 / 2)) (j := 6 * (8 * k + 5) + 2) (k := 2) (Rn_cr.2 qu) (Rn_cr.2 qh) (by omega) (by omega)
  rw [rv_cr, rv_cr] at g4
  clear qh
  generalize Ψ .cr ((unitR (normS (tv t))).2 * (1 / 2)) = A at *
  generalize Ψ .cr (1 / 2) = H at *
  generalize (unitS (normS (tv t))).isSome = ok at *
  generalize Ψ .cV (unitR (normS (tv t))).1 = U at *
  generalize Ψ .cr (unitR (normS (tv t))).2 = L at *
  exact rq trivial
theorem of5_good (x y z : Int) (h1 : -9223372036854775808 ≤ x) (h2 : x ≤ 9223372036854775807) (h3 : -9223372036854775808 ≤ y) (h4 : y ≤ 9223372036854775807) (h5 : -9223372036854775808 ≤ z) (h6 : z ≤ 9223372036854775807) :
    Good P F.penumbraref05_Of [.d (.i .i64 x), .d (.i .i64 y), .d (.i .i64 z)] [] (.d (.agg (dV Ψ (Ψ .cV ⟨x, y, z⟩)))) [] := by
  refine G.penumbraref05_Of fun C C2 hC hC2 => ?_
  have g1 := of3_good x 1 h1 h2 (by omega) (by omega)
  have g2 := of3_good y 1 h3 h4 (by omega) (by omega)
  have g3 := of3_good z 1 h5 h6 (by omega) (by omega)
  have e : ∀ n : Int, (n : Rat) / ((1 : Int) : Rat) = n := fun n => by
    have : ((1 : Int) : Rat) = 1 := rfl
    rw [this]; grind
  rw [e] at g1 g2 g3
  have hV : Ψ .cV ⟨x, y, z⟩ = ⟨Ψ .cr x, Ψ .cr y, Ψ .cr z⟩ := rfl
  rw [hV]
  generalize Ψ .cr (x : Rat) = X at *
  generalize Ψ .cr (y : Rat) = Y at *
  generalize Ψ .cr (z : Rat) = Z at *
  exact rq trivial
end Go.K.S
end
section
namespace Go.K
open Go
structure ScD (s : ScL) (MD FD : List D) : Prop where
  m : ∀ (i : Nat) m, s.mats[i]? = some m → Ω .sget MD i = some (.agg (dMat Ψ m))
  ml : Ω .slen MD = s.mats.length
  f : ∀ (i : Nat) f, s.faces[i]? = some f → Ω .sget FD i = some (.agg (dFace Ψ f))
  fl : Ω .slen FD = s.faces.length
theorem scD_of (s : ScL) : ScD s (matsD s.mats) (facesD s.faces) where
  m := fun i m h => by simp [matsD, w_sget, h]
  ml := by simp [matsD, w_slen]
  f := fun i m h => by simp [facesD, w_sget, h]
  fl := by simp [facesD, w_slen]
theorem all_take_succ {α : Type} {l : List α} {p : α → Bool} {i : Nat} {x : α} (h : l[i]? = some x) : (l.take (i + 1)).all p = ((l.take i).all p && p x) := by
  rw [take_succ_of h, List.all_append]; simp
theorem all_false_of {α : Type} {l : List α} {p : α → Bool} {i : Nat} {x : α} (h : l[i]? = some x) (hp : p x = false) : l.all p = false := by
  rw [List.all_eq_false]
  exact ⟨x, List.mem_of_getElem? h, by simp [hp]⟩
theorem all_take_all {α : Type} {l : List α} {p : α → Bool} : (l.take l.length).all p = l.all p := by rw [List.take_length]
theorem hx_dRs {l : List RL} {i : Nat} {r : RL} (h : l[i]? = some r) : Ω .sget (Ψ .dRs l) i = some (.agg (dR Ψ r)) := by rw [sget_dRs, h]; rfl
theorem hx_dVs {l : List VL} {i : Nat} {r : VL} (h : l[i]? = some r) : Ω .sget (Ψ .dVs l) i = some (.agg (dV Ψ r)) := by rw [sget_dVs, h]; rfl
end Go.K
namespace Go.K.S
open Go Go.K
set_option maxHeartbeats 4000000
set_option maxRecDepth 20000
theorem fits_good (l : List RL) {k : Nat} (hl : ∀ r, r ∈ l → Rn k r) (hk0 : 0 < k) (hk : k < 137438953472) (hs : l.length < 1099511627776) :
    Good P F.scene_fits [.d (.sl (Ψ .dRs l))] [] (.d (.b (l.all fitR))) [] := by
  refine G.scene_fits fun C C2 hC hC2 => ?_
  obtain ⟨R, hR⟩ : ∃ R, R = l.all fitR := ⟨_, rfl⟩
  rw [← hR]
  have hst : ∀ i r, l[i]? = some r → fitR r = true → (l.take i).all fitR = true → (l.take (i + 1)).all fitR = true := fun i r h h1 h2 => by rw [all_take_succ h, h1, h2]; rfl
  have hbad : ∀ i r, l[i]? = some r → fitR r = false → R = false := fun i r h h1 => by rw [hR]; exact all_false_of h h1
  have hend : (l.take l.length).all fitR = true → R = true := fun h => by rw [hR, ← all_take_all]; exact h
  clear hR
  refine rq ?_
  refine LoopG.intro (σ := Nat) [5, 6, 7] [] (fun i => [.d (.sl (Ψ .dRs l)), .d (.i .i64 (Ω .ci l.length)), .d (.i .i64 (Ω .ci i))]) (fun _ => []) (fun i => i ≤ l.length ∧ (l.take i).all fitR = true) (fun i => l.length - i) 0 []
    ⟨Nat.zero_le _, rfl⟩ ⟨rfl, rfl, rfl⟩ ?_
  rintro i ⟨hi, ha⟩
  rcases Nat.lt_or_ge i l.length with hlt | hge
  · obtain ⟨r, hr⟩ : ∃ r, l[i]? = some r := ⟨_, List.getElem?_eq_getElem hlt⟩
    have hx := hx_dRs hr
    have hrn := hl r (List.mem_of_getElem? hr)
    have q0 : Ω .lt (Ω .ci i) (Ω .ci l.length) = true := by simp only [wz]; omega
    have g1 := rcheck_good r hrn hk0 (by omega)
    have g2 := bits_good r.num (hrn.N1 (by omega))
    have g3 := bits_good r.den (hrn.N2 (by omega))
    have hs' := hst i r hr
    have hb' := hbad i r hr
    unfold fitR at hs' hb'
    have e1 : decide (bl (nv r.num) ≤ 64) = !(Ω .lt 64 (Ω .ci (bl (nv r.num)))) := by
      by_cases h : bl (nv r.num) ≤ 64
      · rw [decide_eq_true h, lt_false.2 (by simp only [wz]; omega)]; rfl
      · rw [decide_eq_false h, lt_true.2 (by simp only [wz]; omega)]; rfl
    have e2 : decide (bl (nv r.den) ≤ 64) = !(Ω .lt 64 (Ω .ci (bl (nv r.den)))) := by
      by_cases h : bl (nv r.den) ≤ 64
      · rw [decide_eq_true h, lt_false.2 (by simp only [wz]; omega)]; rfl
      · rw [decide_eq_false h, lt_true.2 (by simp only [wz]; omega)]; rfl
    rw [e1, e2] at hs' hb'
    clear e1 e2
    generalize decide (r = Ψ .cr (rv r)) = t1 at *
    generalize bl (nv r.num) = b1 at *
    generalize bl (nv r.den) = b2 at *
    cases t1 with
    | false =>
      have := hb' rfl
      subst this
      exact rq trivial
    | true =>
      cases q1 : Ω .lt 64 (Ω .ci b1) with
      | true =>
        rw [q1] at hb'
        have := hb' rfl
        subst this
        exact rq trivial
      | false =>
        cases q2 : Ω .lt 64 (Ω .ci b2) with
        | true =>
          rw [q1, q2] at hb'
          have := hb' rfl
          subst this
          exact rq trivial
        | false =>
          rw [q1, q2] at hs'
          refine rq ?_
          refine ⟨i + 1, [], ⟨hlt, hs' rfl ha⟩, by omega, rfl, ?_, rfl⟩
          refine Eq.trans (b := [.d (.sl (Ψ .dRs l)), .d (.i .i64 (Ω .ci l.length)), .d (.i .i64 _)]) rfl ?_
          rw [wrap_succ (by omega)]
  · have q0 : Ω .lt (Ω .ci i) (Ω .ci l.length) = false := by simp only [wz]; omega
    have hil : i = l.length := by omega
    rw [hil] at ha
    have := hend ha
    subst this
    exact rq trivial
theorem fit_good (l : List VL) {k : Nat} (hl : ∀ r, r ∈ l → Vn k r) (hk0 : 0 < k) (hk : k < 137438953472) (hs : l.length < 1099511627776) :
    Good P F.scene_fit [.d (.sl (Ψ .dVs l))] [] (.d (.b (l.all fitV))) [] := by
  refine G.scene_fit fun C C2 hC hC2 => ?_
  obtain ⟨R, hR⟩ : ∃ R, R = l.all fitV := ⟨_, rfl⟩
  rw [← hR]
  have hst : ∀ i r, l[i]? = some r → fitV r = true → (l.take i).all fitV = true → (l.take (i + 1)).all fitV = true := fun i r h h1 h2 => by rw [all_take_succ h, h1, h2]; rfl
  have hbad : ∀ i r, l[i]? = some r → fitV r = false → R = false := fun i r h h1 => by rw [hR]; exact all_false_of h h1
  have hend : (l.take l.length).all fitV = true → R = true := fun h => by rw [hR, ← all_take_all]; exact h
  clear hR
  refine rq ?_
  refine LoopG.intro (σ := Nat) [5, 6, 7] [] (fun i => [.d (.sl (Ψ .dVs l)), .d (.i .i64 (Ω .ci l.length)), .d (.i .i64 (Ω .ci i))]) (fun _ => []) (fun i => i ≤ l.length ∧ (l.take i).all fitV = true) (fun i => l.length - i) 0 []
    ⟨Nat.zero_le _, rfl⟩ ⟨rfl, rfl, rfl⟩ ?_
  rintro i ⟨hi, ha⟩
  rcases Nat.lt_or_ge i l.length with hlt | hge
  · obtain ⟨r, hr⟩ : ∃ r, l[i]? = some r := ⟨_, List.getElem?_eq_getElem hlt⟩
    have hx := hx_dVs hr
    have hrn := hl r (List.mem_of_getElem? hr)
    have q0 : Ω .lt (Ω .ci i) (Ω .ci l.length) = true := by simp only [wz]; omega
    have g1 := fits_good [r.x, r.y, r.z] (k := k) (fun r' h => (mem3 h).elim (fun e => e ▸ hrn.x) fun h => h.elim (fun e => e ▸ hrn.y) fun e => e ▸ hrn.z) hk0 hk (by simp)
    have e1 : Ψ .dRs [r.x, r.y, r.z] = [.agg (dR Ψ r.x), .agg (dR Ψ r.y), .agg (dR Ψ r.z)] := rfl
    have e2 : [r.x, r.y, r.z].all fitR = fitV r := by simp [fitV]
    rw [e1, e2] at g1
    have hs' := hst i r hr
    have hb' := hbad i r hr
    clear e1 e2
    generalize fitV r = t1 at *
    cases t1 with
    | false =>
      have := hb' rfl
      subst this
      exact rq trivial
    | true =>
      refine rq ?_
      refine ⟨i + 1, [], ⟨hlt, hs' rfl ha⟩, by omega, rfl, ?_, rfl⟩
      refine Eq.trans (b := [.d (.sl (Ψ .dVs l)), .d (.i .i64 (Ω .ci l.length)), .d (.i .i64 _)]) rfl ?_
      rw [wrap_succ (by omega)]
  · have q0 : Ω .lt (Ω .ci i) (Ω .ci l.length) = false := by simp only [wz]; omega
    have hil : i = l.length := by omega
    rw [hil] at ha
    have := hend ha
    subst this
    exact rq trivial
end Go.K.S
end
section
namespace Go.K
open Go
theorem etaM_eq {waves : List RL} {m : MatL} {bin : Nat} {w : RL} (hw : waves[bin]? = some w) : etaM waves m bin = if m.kind = 2 ∧ rv w ≠ 0 then some (rv m.a + rv m.b / (rv w * rv w)) else none := by
  unfold etaM; rw [hw]
theorem q_ge {a b : Nat} (h : a < b) : Ω .le (Ω .ci b) (Ω .ci a) = false := by simp only [wz]; omega
theorem q_neg (a : Nat) : Ω .lt (Ω .ci a) 0 = false := by simp only [wz]; omega
theorem qs_pos {q : Rat} : Ω .le (Ψ .sI q) 0 = !decide (0 < q) := by
  by_cases h : 0 < q
  · rw [decide_eq_true h, le_false.2 (sI_pos.2 h)]; rfl
  · rw [decide_eq_false h, le_true.2 (by have := mt (@sI_pos q).1 h; omega)]; rfl
theorem qs_neg {q : Rat} : Ω .lt (Ψ .sI q) 0 = decide (q < 0) := by
  by_cases h : q < 0
  · rw [decide_eq_true h, lt_true.2 (sI_neg.2 h)]
  · rw [decide_eq_false h, lt_false.2 (by have := mt (@sI_neg q).1 h; omega)]
theorem qs_zero {q : Rat} : Ω .eq (Ψ .sI q) 0 = decide (q = 0) := by
  by_cases h : q = 0
  · rw [decide_eq_true h, eq_true'.2 (sI_zero.2 h)]
  · rw [decide_eq_false h, eq_false'.2 (mt sI_zero.1 h)]
theorem qc_pos {p q : Rat} : Ω .lt 0 (Ψ .cI p q) = decide (q < p) := by
  by_cases h : q < p
  · rw [decide_eq_true h, lt_true.2 (cI_pos.2 h)]
  · rw [decide_eq_false h, lt_false.2 (by have := mt (@cI_pos p q).1 h; omega)]
theorem q_eq {a b : Int} : Ω .eq a b = decide (a = b) := by
  by_cases h : a = b
  · rw [decide_eq_true h, eq_true'.2 h]
  · rw [decide_eq_false h, eq_false'.2 h]
theorem q_ne {a b : Int} : Ω .ne a b = !decide (a = b) := by
  by_cases h : a = b
  · rw [decide_eq_true h, ne_false'.2 h]; rfl
  · rw [decide_eq_false h, ne_true'.2 h]; rfl
end Go.K
namespace Go.K.S
open Go Go.K
set_option maxHeartbeats 8000000
set_option maxRecDepth 20000
theorem of14_good : Good P F.rat_Of [.d (.i .i64 1), .d (.i .i64 4)] [] (.d (.agg (dR Ψ (Ψ .cr (1 / 4))))) [] := by
  have g := rof_good 1 4 (by omega) (by omega) (by omega) (by omega)
  exact g
theorem eta_good (s : ScL) {MD FD : List D} (hD : ScD s MD FD) {i bin : Nat} {m : MatL} {w : RL} (hm : s.mats[i]? = some m) (hw : s.waves[bin]? = some w) {k : Nat} (ha : Rn k m.a) (hb : Rn k m.b) (hwn : Rn k w) (hk : 0 < k) (hk2 : k < 268435456) :
    Good P F.scene_Eta [.d (.agg (dSc Ψ MD FD s)), .d (.i .i64 (Ω .ci i)), .d (.i .i64 (Ω .ci bin))] []
      (.tup [.d (.agg (dR Ψ (Ψ .cr ((etaM s.waves m bin).getD 0)))), .d (.b (etaM s.waves m bin).isSome)]) [] := by
  refine G.scene_Eta fun C C2 hC hC2 => ?_
  rw [etaM_eq hw]
  have hx1 := hD.m i m hm
  have hx2 := hx_dRs hw
  have hml := hD.ml
  have hi : i < s.mats.length := (List.getElem?_eq_some_iff.1 hm).1
  have hj : bin < s.waves.length := (List.getElem?_eq_some_iff.1 hw).1
  have q1 := q_neg i
  have q2 := q_ge hi
  have q3 := q_neg bin
  have q4 := q_ge hj
  rw [← hml] at q2
  have g1 := prod2_good w w hwn hwn hk (by omega)
  have qw := (Qn_mul (Qn_rv hwn hk) (Qn_rv hwn hk) (by omega)).mono (show _ ≤ 2 * k by omega)
  have g2 := rdiv_good m.b (Ψ .cr (rv w * rv w)) hb (Rn_cr.2 qw) hk (by omega) (by omega) (by omega)
  rw [rv_cr] at g2
  have qd := (Qn_div (Qn_rv hb hk) qw (by omega)).mono (show _ ≤ 3 * k by omega)
  have g3 := sum2_good m.a (Ψ .cr (rv m.b / (rv w * rv w))) (ha.mono (show k ≤ 3 * k by omega)) (Rn_cr.2 qd) (by omega) (by omega)
  rw [rv_cr] at g3
  have g0 := of01_good
  have ez : decide (rv w * rv w ≠ 0) = decide (rv w ≠ 0) := decide_eq_decide.2 ⟨fun h e => h (by rw [e]; grind), fun h e => h ((Rat.mul_eq_zero.1 e).elim id id)⟩
  rw [ez] at g2
  clear ez qd qw
  by_cases hk2 : m.kind = 2
  · have q5 : Ω .ne m.kind 2 = false := by rw [q_ne, decide_eq_true hk2]; rfl
    by_cases hz : rv w = 0
    · rw [if_neg (fun h => h.2 hz)]
      rw [show decide (rv w ≠ 0) = false from decide_eq_false (fun h => h hz)] at g2
      generalize Ψ .cr (rv m.b / (rv w * rv w)) = A at *
      generalize Ψ .cr (rv w * rv w) = B at *
      simp only [Option.getD_none, Option.isSome_none]
      exact rq trivial
    · rw [if_pos ⟨hk2, hz⟩]
      rw [show decide (rv w ≠ 0) = true from decide_eq_true hz] at g2
      simp only [Option.getD_some, Option.isSome_some]
      generalize Ψ .cr (rv m.a + rv m.b / (rv w * rv w)) = A2 at *
      generalize Ψ .cr (rv m.b / (rv w * rv w)) = A at *
      generalize Ψ .cr (rv w * rv w) = B at *
      exact rq trivial
  · rw [if_neg (fun h => hk2 h.1)]
    have q5 : Ω .ne m.kind 2 = true := by rw [q_ne, decide_eq_false hk2]; rfl
    simp only [Option.getD_none, Option.isSome_none]
    exact rq trivial
end Go.K.S
end
section
namespace Go.K
open Go
theorem take_cases (h : Option M3) (i : Nat) (st : WS) (hb : st.best < (i : Int)) :
    takeS h i st = match h with | none => st | some m => if 0 ≤ st.best ∧ st.m.s ≤ m.s then st else ⟨i, m⟩ := by
  cases h with
  | none => rfl
  | some m =>
    simp only [takeS]
    by_cases h0 : 0 ≤ st.best
    · by_cases h1 : st.m.s ≤ m.s
      · have h2 : st.m.s < m.s ∨ m.s = st.m.s ∧ st.best < (i : Int) := by
          rcases Rat.le_iff_lt_or_eq.1 h1 with h | h
          · exact .inl h
          · exact .inr ⟨h.symm, hb⟩
        rw [if_pos ⟨h0, h2⟩, if_pos ⟨h0, h1⟩]
      · rw [if_neg (fun c => h1 (c.2.elim (fun q => Rat.le_of_lt q) fun q => q.1 ▸ Rat.le_refl)), if_neg (fun c => h1 c.2)]
    · rw [if_neg (fun c => h0 c.1), if_neg (fun c => h0 c.1)]
theorem leaf_best {h : Nat → Option M3} : ∀ n, (leafS h (List.range n) st0).best < (n : Int) ∧ -1 ≤ (leafS h (List.range n) st0).best
  | 0 => by
    have e : leafS h (List.range 0) st0 = st0 := rfl
    rw [e]
    exact ⟨by show (-1 : Int) < 0; omega, by show (-1 : Int) ≤ -1; omega⟩
  | n + 1 => by
    have ih := leaf_best (h := h) n
    rw [List.range_succ, leafS_snoc, take_cases _ _ _ ih.1]
    cases h n with
    | none => simp only; omega
    | some m =>
      simp only
      split
      · omega
      · simp only; omega
end Go.K
namespace Go.K.S
open Go Go.K
set_option maxHeartbeats 8000000
set_option maxRecDepth 20000
theorem nearest12_good {tris : List TL} {TD : List D} (T' : TriH tris TD) (o d : VL) {k : Nat} (ho : Vn k o) (hd : Vn k d) (ht : ∀ t, t ∈ tris → Tn k t) (hk : 0 < k) (hk2 : k < 67108864) :
    Good P F.penumbraref12_Nearest [.d (.sl TD), .d (.agg (dV Ψ o)), .d (.agg (dV Ψ d))] []
      (.tup [.d (.i .i64 (firstS o d tris).best), .d (.agg (dM Ψ (Ψ .cM (firstS o d tris).m))), .d (.b (decide (0 ≤ (firstS o d tris).best)))]) [] := by
  refine G.penumbraref12_Nearest fun C C2 hC hC2 => ?_
  have g0 := none8_good
  have htl := T'.tl
  have hts := T'.ts
  have hsn : ∀ i, leafS (hitAt o d tris) (List.range (i + 1)) st0 = takeS (hitAt o d tris i) i (leafS (hitAt o d tris) (List.range i) st0) := fun i => by rw [List.range_succ, leafS_snoc]
  have hlb := fun i => leaf_best (h := hitAt o d tris) i
  have hz : leafS (hitAt o d tris) (List.range 0) st0 = ⟨-1, m0⟩ := rfl
  have hsz : ∀ i, i ≤ tris.length → Qn (60 * k + 60) (leafS (hitAt o d tris) (List.range i) st0).m.s := fun i hi => (leafS_ok ho hd ht hk (by omega) (List.range i) _ (st0_ok hk)).s
  have hst : ∀ i, i < tris.length → ∃ t, Ω .sget TD i = some (.agg (dT Ψ t)) ∧ Good P F.penumbraref08_Hit [.d (.agg (dV Ψ o)), .d (.agg (dV Ψ d)), .d (.agg (dT Ψ t))] [] (.tup [.d (.agg (dM Ψ (Ψ .cM (hitM (vv o) (vv d) (tv t))))), .d (.b (hitOk (vv o) (vv d) (tv t)))]) [] ∧
      hitAt o d tris i = hitS (vv o) (vv d) (tv t) ∧ ∀ m, hitS (vv o) (vv d) (tv t) = some m → Qn (60 * k + 60) m.s := fun i hi => by
    obtain ⟨t, h⟩ : ∃ t, tris[i]? = some t := ⟨_, List.getElem?_eq_getElem hi⟩
    have htn := ht t (List.mem_of_getElem? h)
    have e : hitAt o d tris i = hitS (vv o) (vv d) (tv t) := by unfold hitAt; rw [h]
    refine ⟨t, T'.t i t h, hit8_good o d t ho hd htn hk (by omega), e, fun m hm => ?_⟩
    have hs := leafS_ok ho hd ht hk (by omega) [i] st0 (st0_ok hk)
    have e2 : leafS (hitAt o d tris) [i] st0 = ⟨i, m⟩ := by
      show takeS (hitAt o d tris i) i st0 = _
      rw [e, hm, take_cases _ _ _ (by show (-1 : Int) < _; omega)]
      rfl
    rw [e2] at hs
    exact hs.s
  have hend : leafS (hitAt o d tris) (List.range tris.length) st0 = firstS o d tris := rfl
  rw [← hend]
  clear hend
  obtain ⟨S, hS⟩ : ∃ S : Nat → WS, S = fun i => leafS (hitAt o d tris) (List.range i) st0 := ⟨_, rfl⟩
  have eS : ∀ i, leafS (hitAt o d tris) (List.range i) st0 = S i := fun i => by rw [hS]
  simp only [eS] at hsn hlb hz hsz ⊢
  clear eS hS
  refine rq ?_
  refine LoopG.intro (σ := Nat) [0, 4, 5, 7, 9, 10, 11] [1050, 1051, 1052, 1053]
    (fun i => [.d (.sl TD), .ptr 1050 0, .ptr 1051 0, .ptr 1052 0, .d (.i .i64 (S i).best), .ptr 1053 0, .d (.i .i64 (Ω .ci i))])
    (fun i => [.var ((dV Ψ o).map V.d), .var ((dV Ψ d).map V.d), .var [.d (.b false), .nil, .nil, .d (.b false), .nil, .nil, .d (.b false), .nil, .nil], .var ((dM Ψ (Ψ .cM (S i).m)).map V.d)])
    (fun i => i ≤ tris.length) (fun i => tris.length - i) 0 [1000, 1001, 1003, 1201] (Nat.zero_le _) ⟨rfl, (by rw [hz]; rfl), (by rw [hz]; rfl)⟩ ?_
  intro i hi
  have hw := wrap_succ (n := i) (by omega)
  rcases Nat.lt_or_ge i tris.length with hlt | hge
  · obtain ⟨t, x1, x2, x3, x4⟩ := hst i hlt
    have q0 : Ω .lt (Ω .ci i) (Ω .ci (Ω .slen TD)) = true := by rw [htl]; simp only [wz]; omega
    have hs1 := hsn i
    rw [x3, take_cases _ _ _ (hlb i).1] at hs1
    have hb1 := (hlb i).2
    have hs := hsz i hi
    unfold hitM hitOk at x2
    cases hh : hitS (vv o) (vv d) (tv t) with
    | none =>
      rw [hh] at x2 hs1
      simp only [Option.getD_none, Option.isSome_none] at x2
      simp only at hs1
      generalize Ψ .cM m0 = M0 at *
      clear hst hsn hlb hz hsz x3 x4
      refine rq ?_
      rw [hw]
      exact ⟨i + 1, [1050, 1051, 1052, 1053], hlt, by omega, rfl, by rw [hs1]; rfl, by rw [hs1]; rfl⟩
    | some m =>
      have hm := x4 m hh
      rw [hh] at x2 hs1
      simp only [Option.getD_some, Option.isSome_some] at x2
      simp only at hs1
      have gc := cmp3_good (Ψ .cr m.s) (Ψ .cr (S i).m.s) (Rn_cr.2 hm) (Rn_cr.2 hs) (by omega) (by omega) (by omega) (by omega)
      rw [rv_cr, rv_cr] at gc
      have pc := @cI_neg m.s (S i).m.s
      clear hst hsn hlb hz hsz x3 x4 hm hs
      by_cases h0 : 0 ≤ (S i).best
      · have q1 : Ω .lt (S i).best 0 = false := lt_false.2 h0
        by_cases h1 : (S i).m.s ≤ m.s
        · rw [if_pos ⟨h0, h1⟩] at hs1
          have q2 : Ω .lt (Ψ .cI m.s (S i).m.s) 0 = false := lt_false.2 (by have := mt pc.1 (Rat.not_lt.2 h1); omega)
          generalize Ψ .cI m.s (S i).m.s = cc at *
          refine rq ?_
          rw [hw]
          exact ⟨i + 1, [1050, 1051, 1052, 1053], hlt, by omega, rfl, by rw [hs1]; rfl, by rw [hs1]; rfl⟩
        · rw [if_neg (fun c => h1 c.2)] at hs1
          have q2 : Ω .lt (Ψ .cI m.s (S i).m.s) 0 = true := lt_true.2 (pc.2 (Rat.not_le.1 h1))
          generalize Ψ .cI m.s (S i).m.s = cc at *
          refine rq ?_
          rw [hw]
          exact ⟨i + 1, [1050, 1051, 1052, 1053], hlt, by omega, rfl, by rw [hs1]; rfl, by rw [hs1]; rfl⟩
      · have q1 : Ω .lt (S i).best 0 = true := lt_true.2 (by omega)
        rw [if_neg (fun c => h0 c.1)] at hs1
        refine rq ?_
        rw [hw]
        exact ⟨i + 1, [1050, 1051, 1052, 1053], hlt, by omega, rfl, by rw [hs1]; rfl, by rw [hs1]; rfl⟩
  · obtain rfl : i = tris.length := by omega
    have q0 : Ω .lt (Ω .ci tris.length) (Ω .ci (Ω .slen TD)) = false := by rw [htl]; simp only [wz]; omega
    clear hst hsn hlb hz hsz
    have q1 : Ω .le 0 (S tris.length).best = decide (0 ≤ (S tris.length).best) := rfl
    generalize decide (0 ≤ (S tris.length).best) = bb at *
    generalize (S tris.length).best = b at *
    generalize Ψ .cM (S tris.length).m = M at *
    cases bb
    all_goals exact rq trivial
end Go.K.S
end
