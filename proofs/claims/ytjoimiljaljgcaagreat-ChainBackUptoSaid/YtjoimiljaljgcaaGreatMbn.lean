/-
  Parts of the proof, joined by a program of this work: KBvh5, KTrace5, KRef12, KAff, KAff2, KRef7, KReady, KReady2, KCd2, KFollow, KSize, KBack2, KBack3, KBack4, KBack5, KChainS.
-/
import Derived.Test.YtjoimiljaljgcaaGreatMbm
import Derived.Test.YtjoimiljaljgcaaGreatMbi
import Derived.Test.YtjoimiljaljgcaaGreatMbj
import Derived.Test.YtjoimiljaljgcaaGreatMbk
set_option linter.unusedSimpArgs false
set_option linter.unusedVariables false
set_option maxHeartbeats 8000000
set_option maxRecDepth 20000
section
namespace Go.K
open Go
def midS (b : BL) : VL := Ψ .cV ⟨rv b.lo.x + rv b.hi.x, rv b.lo.y + rv b.hi.y, rv b.lo.z + rv b.hi.z⟩
def midT (tris : List TL) (i : Nat) : VL := midS (bxT (tlAt tris i))
def buildS (tris : List TL) : BS := nodeS (midT tris) tris tris.length 0 tris.length ⟨[], List.range tris.length⟩
theorem Tn_tl0 {k : Nat} : Tn k tl0 := by
 have h : Rn k ⟨false, [], []⟩ := ⟨fun x hx => absurd hx List.not_mem_nil, fun x hx => absurd hx List.not_mem_nil, Nat.zero_le _, Nat.zero_le _⟩
 exact ⟨⟨h, h, h⟩, ⟨h, h, h⟩, ⟨h, h, h⟩⟩
theorem Tn_tlAt {k : Nat} {tris : List TL} (ht : ∀ t, t ∈ tris → Tn k t) (i : Nat) : Tn k (tlAt tris i) := by
 unfold tlAt
 cases h : tris[i]? with
 | none => exact Tn_tl0
 | some t => exact ht t (List.mem_of_getElem? h)
end Go.K
namespace Go.K.S
open Go Go.K
theorem midS_n {k : Nat} {b : BL} (h : Bn k b) (hk : 0 < k) : Vn (k + k + 1) (midS b) :=
 Vn_cV ⟨Qn_add (Qn_rv h.lo.x hk) (Qn_rv h.hi.x hk), Qn_add (Qn_rv h.lo.y hk) (Qn_rv h.hi.y hk), Qn_add (Qn_rv h.lo.z hk) (Qn_rv h.hi.z hk)⟩
theorem build_good {tris : List TL} {TD : List D} {k : Nat} (hT : ∀ (i : Nat) t, tris[i]? = some t → Ω .sget TD i = some (.agg (dT Ψ t))) (hTl : Ω .slen TD = tris.length) (hn : tris.length ≤ 4096)
  (ht : ∀ t, t ∈ tris → Tn k t) (hk : 0 < k) (hk2 : k < 60000000) :
  Good P F.bvh_Build [.d (.sl TD)] [] (.tup [.d (.agg [.sl (nodesD (buildS tris).nodes), .sl (oD (buildS tris).order)]), .d (.i .i64 0)]) [] := by
 refine G.bvh_Build fun C C2 hC hC2 => ?_
 have hm : ∀ i, Vn (k + k + 1) (midT tris i) := fun i => midS_n (bxT_n (Tn_tlAt ht i) hk) hk
 have gn : 0 < tris.length → Good P F.P_bvh_builder_node [.ptr 0 0, .d (.i .i64 0), .d (.i .i64 (Ω .ci tris.length))] [.var (bcell Ψ (.own 1 22) (.own 2 1) (.own 3 9) TD), .row true T.api_Node 22 (nodesD []), .row true T.int 1 (oD (List.range tris.length)), .row true T.api_Vec 9 (Ψ .dVs ((List.range tris.length).map (midT tris)))]
   (.d (.i .i64 0)) [.var (bcell Ψ (.own 4 22) (.own 2 1) (.own 3 9) TD), .dead, .row true T.int 1 (oD (buildS tris).order), .row true T.api_Vec 9 (Ψ .dVs ((List.range tris.length).map (midT tris))), .row true T.api_Node 22 (nodesD (buildS tris).nodes)] := fun h =>
  bnode_good hT (fun i hi => by rw [sget_dVs]; simp [hi]) (fun t h => (ht t h).mono (by omega)) hm (by omega) (by omega) tris.length 0 tris.length ⟨[], List.range tris.length⟩ (Nat.le_refl _) h (by simp) List.nodup_range (fun i hi => by simpa using hi) (by simp; omega) (by simp; omega)
 have hb0 : tris.length = 0 → buildS tris = ⟨[], []⟩ := fun h => by
  have : tris = [] := List.eq_nil_of_length_eq_zero h
  subst this; rfl
 generalize buildS tris = R at *
 have hoF := oD_ok
 have hnF := nodesD_ok
 have hst : ∀ j, Ω .scat (oD (List.range j)) [.i .i64 (Ω .ci j)] = oD (List.range (j + 1)) := fun j => by rw [hoF.cat, List.range_succ]
 have hsm : ∀ j, Ω .scat (Ψ .dVs ((List.range j).map (midT tris))) [.agg (dV Ψ (midT tris j))] = Ψ .dVs ((List.range (j + 1)).map (midT tris)) := fun j => by
  rw [List.range_succ, List.map_append, ← scat_dVs]; rfl
 have hsl : ∀ j, ((List.range j).map (midT tris)).length = j := fun j => by simp
 have hol : ∀ j, Ω .slen (oD (List.range j)) = j := fun j => by rw [hoF.len]; simp
 have z1 : oD (List.range 0) = [] := rfl
 have z2 : (List.range 0).map (midT tris) = [] := rfl
 have z3 : nodesD [] = [] := rfl
 have z4 : oD [] = [] := rfl
 obtain ⟨A, hA⟩ : ∃ A : Nat → List VL, A = fun j => (List.range j).map (midT tris) := ⟨_, rfl⟩
 have eA : ∀ j, (List.range j).map (midT tris) = A j := fun j => by rw [hA]
 obtain ⟨O, hO⟩ : ∃ O : Nat → List D, O = fun j => oD (List.range j) := ⟨_, rfl⟩
 have eO : ∀ j, oD (List.range j) = O j := fun j => by rw [hO]
 simp only [eA, eO] at gn hst hsm hsl hol z1 z2
 clear eA hA eO hO
 have hel : ∀ j, j < tris.length → ∃ t : TL, ∃ B : BL, Ω .sget TD j = some (.agg (dT Ψ t)) ∧ Good P F.bvh_around [.d (.agg (dT Ψ t))] [] (.d (.agg (dB Ψ B))) [] ∧ midT tris j = midS B ∧ Bn k B := fun j hj => by
  obtain ⟨t, htr⟩ : ∃ t, tris[j]? = some t := ⟨_, List.getElem?_eq_getElem hj⟩
  have htn := ht t (List.mem_of_getElem? htr)
  refine ⟨t, bxT t, hT _ _ htr, taround_good t htn hk (by omega), ?_, bxT_n htn hk⟩
  unfold midT tlAt
  rw [htr]; rfl
 generalize oD = OO at *
 generalize nodesD = N at *
 generalize tris.length = n at *
 have q0 : Ω .lt 4096 (Ω .ci n) = false := by simp only [wz]; omega
 refine rq ?_
 rw [hTl]
 refine rq ?_
 rw [hTl]
 refine LoopG.introB (σ := Nat) [.cell 1302 0 900001 T.api_Node 22, .cell 1302 1 900002 T.int 1, .cell 1302 3 900003 T.api_Vec 9] [0, 2, 4, 15, 16, 17] [1050, 1051, 1052, 1053, 1054]
  (fun i => [.d (.sl TD), .ptr 1050 0, .ptr 1051 0, .d (.sl TD), .d (.i .i64 (Ω .ci n)), .d (.i .i64 (Ω .ci i))])
  (fun i => [.var [.nil, .nil], .var (bcell Ψ (.own 1052 22) (.own 1053 1) (.own 1054 9) TD), .row true T.api_Node 22 (N []), .row true T.int 1 (O i), .row true T.api_Vec 9 (Ψ .dVs (A i))])
  (fun i => i ≤ n)
  (fun i => n - i) 0 [1000, 1302, 900001, 900002, 900003] (Nat.zero_le _) ⟨rfl, rfl, (by rw [z1, z2, z3]; rfl)⟩ ?_
 intro j hj
 have hl1 := hsl j
 have hl2 := hol j
 rcases Nat.lt_or_ge j n with hlt | hge
 ·obtain ⟨t, B, h1, h2, h3, h4⟩ := hel j hlt
  have hq : Ω .lt (Ω .ci j) (Ω .ci n) = true := by simp only [wz]; omega
  have s1 := hst j
  have s2 := hsm j
  rw [h3] at s2
  have gx := sum2_good B.lo.x B.hi.x h4.lo.x h4.hi.x hk (by omega)
  have gy := sum2_good B.lo.y B.hi.y h4.lo.y h4.hi.y hk (by omega)
  have gz := sum2_good B.lo.z B.hi.z h4.lo.z h4.hi.z hk (by omega)
  have ex : Ψ .cr (rv B.lo.x + rv B.hi.x) = (midS B).x := rfl
  have ey : Ψ .cr (rv B.lo.y + rv B.hi.y) = (midS B).y := rfl
  have ez : Ψ .cr (rv B.lo.z + rv B.hi.z) = (midS B).z := rfl
  rw [ex] at gx
  rw [ey] at gy
  rw [ez] at gz
  generalize midS B = M at *
  refine rq ?_
  refine ⟨j + 1, [1050, 1051, 1052, 1708, 1931], hlt, by omega, rfl, ?_, ?_⟩
  ·refine Eq.trans (b := [.d (.sl TD), .ptr 1050 0, .ptr 1051 0, .d (.sl TD), .d (.i .i64 (Ω .ci n)), .d (.i .i64 _)]) rfl ?_
   rw [wrap_succ (by omega)]
  ·rw [← s1, ← s2]
   rfl
 ·obtain rfl : j = n := by omega
  have hq : Ω .lt (Ω .ci j) (Ω .ci j) = false := by simp only [wz]; omega
  by_cases h0 : j = 0
  ·rw [hb0 h0]
   subst h0
   have e1 : N [] = [] := z3
   have e2 : OO [] = [] := z4
   have q2 : Ω .lt 0 (Ω .ci 0) = false := by simp only [wz]; omega
   simp only
   rw [z3, z4]
   refine rq ?_
   rw [hTl]
   refine rq ?_
   rw [z1]
  ·have g := gn (by omega)
   have q2 : Ω .lt 0 (Ω .ci j) = true := by simp only [wz]; omega
   obtain ⟨rn, ro⟩ := R
   simp only at g ⊢
   refine rq ?_
   rw [hTl]
   refine rq ?_
   rw [hTl]
   exact rq trivial
end Go.K.S
end
section
namespace Go.K
open Go Go.K.S
theorem joinT_n {tris : List TL} {k : Nat} (ht : ∀ t, t ∈ tris → Tn k t) (hk : 0 < k) (l : List Nat) : Bn k (joinT tris l) := Bn_cB (Bq_joins hk _ (fun b hb => by
 obtain ⟨i, hi, rfl⟩ := List.mem_map.1 hb
 exact bxT_n (Tn_tlAt ht i) hk))
theorem nodeS_bn {m : Nat → VL} {tris : List TL} {k : Nat} (ht : ∀ t, t ∈ tris → Tn k t) (hk : 0 < k) : ∀ (g f c : Nat) (s : BS), (∀ n, n ∈ s.nodes → Bn k n.box) → ∀ n, n ∈ (nodeS m tris g f c s).nodes → Bn k n.box
 | 0, f, c, s, h => h
 | g + 1, f, c, s, h => by
  have h1 : ∀ x : NodeL, x.box = joinT tris ((s.order.drop f).take c) → Bn k x.box := fun x e => by rw [e]; exact joinT_n ht hk _
  rw [nodeS]
  split
  ·intro n hn
   rcases List.mem_append.1 hn with hn | hn
   ·exact h n hn
   ·rw [List.mem_singleton.1 hn]; exact h1 _ rfl
  ·intro n hn
   rcases List.mem_or_eq_of_mem_set hn with hn | hn
   ·refine nodeS_bn ht hk g _ _ _ (nodeS_bn ht hk g _ _ _ ?_) n hn
    intro x hx
    rcases List.mem_append.1 hx with hx | hx
    ·exact h x hx
    ·rw [List.mem_singleton.1 hx]; exact h1 _ rfl
   ·rw [hn]; exact h1 _ rfl
end Go.K
namespace Go.K.S
open Go Go.K
theorem nearest_build {tris : List TL} {TD : List D} (T' : TriH tris TD) (o d : VL) {k : Nat} (ho : Vn k o) (hd : Vn k d) (ht : ∀ t, t ∈ tris → Tn k t) (hk : 0 < k) (hk2 : k < 134217728) (hn : tris.length ≤ 4096) :
   Good P F.trace_Nearest [.d (.agg [.sl (nodesD (buildS tris).nodes), .sl (oD (buildS tris).order)]), .d (.sl TD), .d (.agg (dV Ψ o)), .d (.agg (dV Ψ d))] []
    (.tup [.d (.i .i64 (firstS o d tris).best), .d (.agg (dM Ψ (Ψ .cM (firstS o d tris).m))), .d (.b (decide (0 ≤ (firstS o d tris).best)))]) [] := by
 rcases Nat.eq_zero_or_pos tris.length with h0 | h0
 ·have : tris = [] := List.eq_nil_of_length_eq_zero h0
  subst this
  exact nearest_none o d
 ·obtain ⟨t, h⟩ := nodeS_ok (m := midT tris) (tris := tris) tris.length 0 tris.length ⟨[], List.range tris.length⟩ (Nat.le_refl _) h0 (by simp) List.nodup_range
  have hb := nodeS_bn (m := midT tris) ht hk tris.length 0 tris.length ⟨[], List.range tris.length⟩ (fun n hn => absurd hn List.not_mem_nil)
  change NodeOk tris 0 tris.length _ (buildS tris) t at h
  change ∀ n, n ∈ (buildS tris).nodes → _ at hb
  have hp : (buildS tris).order.Perm (List.range tris.length) := nodup_of_parts h.len h.perm h.out
  have hl := hp.length_eq
  rw [List.length_range] at hl
  have hm := h.more
  have g := nearest_good (order := (buildS tris).order) (OD := oD (buildS tris).order) (nodes := (buildS tris).nodes) (ND := nodesD (buildS tris).nodes) (TD := TD)
   ⟨oD_ok.get _, oD_ok.len _, fun i hi => List.mem_range.1 (hp.mem_iff.1 hi), T'.t, T'.tl, by omega, by omega⟩ ⟨nodesD_ok.get _, nodesD_ok.len _, by simp only [List.length_nil] at hm; omega⟩ o d ho hd ht hb hk hk2 t h.fit h.ix
  rw [near_first h.held (fun j => by rw [h.set]; simp)] at g
  exact g
end Go.K.S
end
section
namespace Go.K
open Go
theorem take_cases (h : Option M3) (i : Nat) (st : WS) (hb : st.best < (i : Int)) :
  takeS h i st = match h with | none => st | some m => if 0 ≤ st.best ∧ st.m.s ≤ m.s then st else ⟨i, m⟩ := by
 cases h with
 | none => rfl
 | some m =>
  simp only [takeS]
  by_cases h0 : 0 ≤ st.best
  ·by_cases h1 : st.m.s ≤ m.s
   ·have h2 : st.m.s < m.s ∨ m.s = st.m.s ∧ st.best < (i : Int) := by
     rcases Rat.le_iff_lt_or_eq.1 h1 with h | h
     ·exact .inl h
     ·exact .inr ⟨h.symm, hb⟩
    rw [if_pos ⟨h0, h2⟩, if_pos ⟨h0, h1⟩]
   ·rw [if_neg (fun c => h1 (c.2.elim (fun q => Rat.le_of_lt q) fun q => q.1 ▸ Rat.le_refl)), if_neg (fun c => h1 c.2)]
  ·rw [if_neg (fun c => h0 c.1), if_neg (fun c => h0 c.1)]
theorem leaf_best {h : Nat → Option M3} : ∀ n, (leafS h (List.range n) st0).best < (n : Int) ∧ -1 ≤ (leafS h (List.range n) st0).best
 | 0 => by
  have e : leafS h (List.range 0) st0 = st0 := rfl
  rw [e]
  exact ⟨by show (-1 : Int) < 0; omega, by show (-1 : Int) ≤ -1; omega⟩
 | n + 1 => by
  have ih := leaf_best (h := h) n
  rw [List.range_succ, leafS_snoc, take_cases _ _ _ ih.1]
  cases h n with
  | none => simp only; omega
  | some m =>
   simp only
   split
   ·omega
   ·simp only; omega
end Go.K
namespace Go.K.S
open Go Go.K
theorem nearest12_good {tris : List TL} {TD : List D} (T' : TriH tris TD) (o d : VL) {k : Nat} (ho : Vn k o) (hd : Vn k d) (ht : ∀ t, t ∈ tris → Tn k t) (hk : 0 < k) (hk2 : k < 67108864) :
  Good P F.penumbraref12_Nearest [.d (.sl TD), .d (.agg (dV Ψ o)), .d (.agg (dV Ψ d))] []
   (.tup [.d (.i .i64 (firstS o d tris).best), .d (.agg (dM Ψ (Ψ .cM (firstS o d tris).m))), .d (.b (decide (0 ≤ (firstS o d tris).best)))]) [] := by
 refine G.penumbraref12_Nearest fun C C2 hC hC2 => ?_
 have g0 := none8_good
 have htl := T'.tl
 have hts := T'.ts
 have hsn : ∀ i, leafS (hitAt o d tris) (List.range (i + 1)) st0 = takeS (hitAt o d tris i) i (leafS (hitAt o d tris) (List.range i) st0) := fun i => by rw [List.range_succ, leafS_snoc]
 have hlb := fun i => leaf_best (h := hitAt o d tris) i
 have hz : leafS (hitAt o d tris) (List.range 0) st0 = ⟨-1, m0⟩ := rfl
 have hsz : ∀ i, i ≤ tris.length → Qn (60 * k + 60) (leafS (hitAt o d tris) (List.range i) st0).m.s := fun i hi => (leafS_ok ho hd ht hk (by omega) (List.range i) _ (st0_ok hk)).s
 have hst : ∀ i, i < tris.length → ∃ t, Ω .sget TD i = some (.agg (dT Ψ t)) ∧ Good P F.penumbraref08_Hit [.d (.agg (dV Ψ o)), .d (.agg (dV Ψ d)), .d (.agg (dT Ψ t))] [] (.tup [.d (.agg (dM Ψ (Ψ .cM (hitM (vv o) (vv d) (tv t))))), .d (.b (hitOk (vv o) (vv d) (tv t)))]) [] ∧
   hitAt o d tris i = hitS (vv o) (vv d) (tv t) ∧ ∀ m, hitS (vv o) (vv d) (tv t) = some m → Qn (60 * k + 60) m.s := fun i hi => by
  obtain ⟨t, h⟩ : ∃ t, tris[i]? = some t := ⟨_, List.getElem?_eq_getElem hi⟩
  have htn := ht t (List.mem_of_getElem? h)
  have e : hitAt o d tris i = hitS (vv o) (vv d) (tv t) := by unfold hitAt; rw [h]
  refine ⟨t, T'.t i t h, hit8_good o d t ho hd htn hk (by omega), e, fun m hm => ?_⟩
  have hs := leafS_ok ho hd ht hk (by omega) [i] st0 (st0_ok hk)
  have e2 : leafS (hitAt o d tris) [i] st0 = ⟨i, m⟩ := by
   show takeS (hitAt o d tris i) i st0 = _
   rw [e, hm, take_cases _ _ _ (by show (-1 : Int) < _; omega)]
   rfl
  rw [e2] at hs
  exact hs.s
 have hend : leafS (hitAt o d tris) (List.range tris.length) st0 = firstS o d tris := rfl
 rw [← hend]
 clear hend
 obtain ⟨S, hS⟩ : ∃ S : Nat → WS, S = fun i => leafS (hitAt o d tris) (List.range i) st0 := ⟨_, rfl⟩
 have eS : ∀ i, leafS (hitAt o d tris) (List.range i) st0 = S i := fun i => by rw [hS]
 simp only [eS] at hsn hlb hz hsz ⊢
 clear eS hS
 refine rq ?_
 refine LoopG.intro (σ := Nat) [0, 4, 5, 7, 9, 10, 11] [1050, 1051, 1052, 1053]
  (fun i => [.d (.sl TD), .ptr 1050 0, .ptr 1051 0, .ptr 1052 0, .d (.i .i64 (S i).best), .ptr 1053 0, .d (.i .i64 (Ω .ci i))])
  (fun i => [.var ((dV Ψ o).map V.d), .var ((dV Ψ d).map V.d), .var [.d (.b false), .nil, .nil, .d (.b false), .nil, .nil, .d (.b false), .nil, .nil], .var ((dM Ψ (Ψ .cM (S i).m)).map V.d)])
  (fun i => i ≤ tris.length) (fun i => tris.length - i) 0 [1000, 1001, 1003, 1201] (Nat.zero_le _) ⟨rfl, (by rw [hz]; rfl), (by rw [hz]; rfl)⟩ ?_
 intro i hi
 have hw := wrap_succ (n := i) (by omega)
 rcases Nat.lt_or_ge i tris.length with hlt | hge
 ·obtain ⟨t, x1, x2, x3, x4⟩ := hst i hlt
  have q0 : Ω .lt (Ω .ci i) (Ω .ci (Ω .slen TD)) = true := by rw [htl]; simp only [wz]; omega
  have hs1 := hsn i
  rw [x3, take_cases _ _ _ (hlb i).1] at hs1
  have hb1 := (hlb i).2
  have hs := hsz i hi
  unfold hitM hitOk at x2
  cases hh : hitS (vv o) (vv d) (tv t) with
  | none =>
   rw [hh] at x2 hs1
   simp only [Option.getD_none, Option.isSome_none] at x2
   simp only at hs1
   generalize Ψ .cM m0 = M0 at *
   clear hst hsn hlb hz hsz x3 x4
   refine rq ?_
   rw [hw]
   exact ⟨i + 1, [1050, 1051, 1052, 1053], hlt, by omega, rfl, by rw [hs1]; rfl, by rw [hs1]; rfl⟩
  | some m =>
   have hm := x4 m hh
   rw [hh] at x2 hs1
   simp only [Option.getD_some, Option.isSome_some] at x2
   simp only at hs1
   have gc := cmp3_good (Ψ .cr m.s) (Ψ .cr (S i).m.s) (Rn_cr.2 hm) (Rn_cr.2 hs) (by omega) (by omega) (by omega) (by omega)
   rw [rv_cr, rv_cr] at gc
   have pc := @cI_neg m.s (S i).m.s
   clear hst hsn hlb hz hsz x3 x4 hm hs
   by_cases h0 : 0 ≤ (S i).best
   ·have q1 : Ω .lt (S i).best 0 = false := lt_false.2 h0
    by_cases h1 : (S i).m.s ≤ m.s
    ·rw [if_pos ⟨h0, h1⟩] at hs1
     have q2 : Ω .lt (Ψ .cI m.s (S i).m.s) 0 = false := lt_false.2 (by have := mt pc.1 (Rat.not_lt.2 h1); omega)
     generalize Ψ .cI m.s (S i).m.s = cc at *
     refine rq ?_
     rw [hw]
     exact ⟨i + 1, [1050, 1051, 1052, 1053], hlt, by omega, rfl, by rw [hs1]; rfl, by rw [hs1]; rfl⟩
    ·rw [if_neg (fun c => h1 c.2)] at hs1
     have q2 : Ω .lt (Ψ .cI m.s (S i).m.s) 0 = true := lt_true.2 (pc.2 (Rat.not_le.1 h1))
     generalize Ψ .cI m.s (S i).m.s = cc at *
     refine rq ?_
     rw [hw]
     exact ⟨i + 1, [1050, 1051, 1052, 1053], hlt, by omega, rfl, by rw [hs1]; rfl, by rw [hs1]; rfl⟩
   ·have q1 : Ω .lt (S i).best 0 = true := lt_true.2 (by omega)
    rw [if_neg (fun c => h0 c.1)] at hs1
    refine rq ?_
    rw [hw]
    exact ⟨i + 1, [1050, 1051, 1052, 1053], hlt, by omega, rfl, by rw [hs1]; rfl, by rw [hs1]; rfl⟩
 ·obtain rfl : i = tris.length := by omega
  have q0 : Ω .lt (Ω .ci tris.length) (Ω .ci (Ω .slen TD)) = false := by rw [htl]; simp only [wz]; omega
  clear hst hsn hlb hz hsz
  have q1 : Ω .le 0 (S tris.length).best = decide (0 ≤ (S tris.length).best) := rfl
  generalize decide (0 ≤ (S tris.length).best) = bb at *
  generalize (S tris.length).best = b at *
  generalize Ψ .cM (S tris.length).m = M at *
  cases bb
  all_goals exact rq trivial
end Go.K.S
end
section
namespace Go.K
open Go
structure Mpn (k : Nat) (m : MapL) : Prop where
 x : Vn k m.x
 y : Vn k m.y
 z : Vn k m.z
 move : Vn k m.move
structure M4n (k : Nat) (m : M4) : Prop where
 x : Pn k m.x
 y : Pn k m.y
 z : Pn k m.z
 move : Pn k m.move
theorem Mpn.mono {j k : Nat} {m : MapL} (h : Mpn j m) (hjk : j ≤ k) : Mpn k m := ⟨h.x.mono hjk, h.y.mono hjk, h.z.mono hjk, h.move.mono hjk⟩
theorem M4n.mono {j k : Nat} {m : M4} (h : M4n j m) (hjk : j ≤ k) : M4n k m := ⟨h.x.mono hjk, h.y.mono hjk, h.z.mono hjk, h.move.mono hjk⟩
theorem Mpn_c {k : Nat} {m : M4} (h : M4n k m) : Mpn k (cMap Ψ m) := ⟨Vn_cV h.x, Vn_cV h.y, Vn_cV h.z, Vn_cV h.move⟩
theorem M4n_mv {k : Nat} {m : MapL} (h : Mpn k m) (hk : 0 < k) : M4n k (mv m) := ⟨Pn_vv h.x hk, Pn_vv h.y hk, Pn_vv h.z hk, Pn_vv h.move hk⟩
end Go.K
namespace Go.K.S
open Go Go.K
theorem rneg_good (r : RL) {k : Nat} (h : Rn k r) (hk : k < 549755813888) : Good P F.rat_Neg [.d (.agg (dR Ψ r))] [] (.d (.agg (dR Ψ (Ψ .cr (- rv r))))) [] := by
 refine G.rat_Neg fun C C2 hC hC2 => ?_
 have g := made_good (!r.neg) r.num r.den (h.N1 (by omega)) (h.N2 (by omega)) (by have := h.kn; omega) (by have := h.kd; omega)
 have e : mkRat (sg (!r.neg) (nv r.num)) (nv r.den) = - rv r := by rw [← rv_neg]; rfl
 rw [e] at g
 generalize Ψ .cr (- rv r) = R at *
 obtain ⟨s, x, y⟩ := r
 cases s
 all_goals exact rq trivial
theorem vread_good (v : VL) {k : Nat} (h : Vn k v) (hk : k < 549755813888) : Good P F.vec_Read [.d (.agg (dV Ψ v))] [] (.d (.agg (dV Ψ (Ψ .cV (vv v))))) [] := by
 refine G.vec_Read fun C C2 hC hC2 => ?_
 have g1 := read_good v.x h.x hk
 have g2 := read_good v.y h.y hk
 have g3 := read_good v.z h.z hk
 have hV : Ψ .cV (vv v) = ⟨Ψ .cr (rv v.x), Ψ .cr (rv v.y), Ψ .cr (rv v.z)⟩ := rfl
 rw [hV]
 exact rq trivial
theorem ident_good : Good P F.affine_Identity [] [] (.d (.agg (dMap Ψ (cMap Ψ idM)))) [] := by
 refine G.affine_Identity fun C C2 hC hC2 => ?_
 have g1 := vof_good 1 0 0 (by omega) (by omega) (by omega) (by omega) (by omega) (by omega)
 have g2 := vof_good 0 1 0 (by omega) (by omega) (by omega) (by omega) (by omega) (by omega)
 have g3 := vof_good 0 0 1 (by omega) (by omega) (by omega) (by omega) (by omega) (by omega)
 have g4 := vof_good 0 0 0 (by omega) (by omega) (by omega) (by omega) (by omega) (by omega)
 have e : cMap Ψ idM = ⟨Ψ .cV ⟨((1 : Int) : Rat), ((0 : Int) : Rat), ((0 : Int) : Rat)⟩, Ψ .cV ⟨((0 : Int) : Rat), ((1 : Int) : Rat), ((0 : Int) : Rat)⟩, Ψ .cV ⟨((0 : Int) : Rat), ((0 : Int) : Rat), ((1 : Int) : Rat)⟩, Ψ .cV ⟨((0 : Int) : Rat), ((0 : Int) : Rat), ((0 : Int) : Rat)⟩⟩ := rfl
 rw [e]
 generalize Ψ .cV ⟨((1 : Int) : Rat), ((0 : Int) : Rat), ((0 : Int) : Rat)⟩ = A at *
 generalize Ψ .cV ⟨((0 : Int) : Rat), ((1 : Int) : Rat), ((0 : Int) : Rat)⟩ = B at *
 generalize Ψ .cV ⟨((0 : Int) : Rat), ((0 : Int) : Rat), ((1 : Int) : Rat)⟩ = C3 at *
 generalize Ψ .cV ⟨((0 : Int) : Rat), ((0 : Int) : Rat), ((0 : Int) : Rat)⟩ = D4 at *
 exact rq trivial
theorem turn_good (m : MapL) (d : VL) {k : Nat} (hm : Mpn k m) (hd : Vn k d) (hk : 0 < k) (hk2 : k < 8589934590) :
  Good P F.affine_Turn [.d (.agg (dMap Ψ m)), .d (.agg (dV Ψ d))] [] (.d (.agg (dV Ψ (Ψ .cV (turnS (mv m) (vv d)))))) [] := by
 refine G.affine_Turn fun C C2 hC hC2 => ?_
 have g1 := vdot_good m.x d hm.x hd hk hk2
 have g2 := vdot_good m.y d hm.y hd hk hk2
 have g3 := vdot_good m.z d hm.z hd hk hk2
 have e : Ψ .cV (turnS (mv m) (vv d)) = ⟨Ψ .cr (vdot (vv m.x) (vv d)), Ψ .cr (vdot (vv m.y) (vv d)), Ψ .cr (vdot (vv m.z) (vv d))⟩ := rfl
 rw [e]
 exact rq trivial
theorem Pn_turn {k : Nat} {m : M4} {d : V3} (hm : M4n k m) (hd : Pn k d) (hk : 0 < k) : Pn (6 * k + 2) (turnS m d) :=
 ⟨(Qn_dot hm.x hd (by omega)).mono (by omega), (Qn_dot hm.y hd (by omega)).mono (by omega), (Qn_dot hm.z hd (by omega)).mono (by omega)⟩
theorem apply_good (m : MapL) (d : VL) {k : Nat} (hm : Mpn k m) (hd : Vn k d) (hk : 0 < k) (hk2 : k < 715000000) :
  Good P F.affine_Apply [.d (.agg (dMap Ψ m)), .d (.agg (dV Ψ d))] [] (.d (.agg (dV Ψ (Ψ .cV (applyS (mv m) (vv d)))))) [] := by
 refine G.affine_Apply fun C C2 hC hC2 => ?_
 have g1 := turn_good m d hm hd hk (by omega)
 have p1 := Pn_turn (M4n_mv hm hk) (Pn_vv hd hk) hk
 have g2 := vsum2_good (Ψ .cV (turnS (mv m) (vv d))) m.move (Vn_cV p1) (hm.move.mono (show k ≤ 6 * k + 2 by omega)) (by omega) (by omega)
 rw [vv_cV] at g2
 have e : applyS (mv m) (vv d) = vadd (turnS (mv m) (vv d)) (vv m.move) := rfl
 rw [e]
 exact rq trivial
theorem det_good (m : MapL) {k : Nat} (hm : Mpn k m) (hk : 0 < k) (hk2 : k < 1073741824) :
  Good P F.affine_Det [.d (.agg (dMap Ψ m))] [] (.d (.agg (dR Ψ (Ψ .cr (detS (mv m)))))) [] := by
 refine G.affine_Det fun C C2 hC hC2 => ?_
 have g1 := vcross_good m.y m.z hm.y hm.z hk (by omega)
 have p1 := Pn_cross (Pn_vv hm.y hk) (Pn_vv hm.z hk) (by omega)
 have g2 := vdot_good m.x (Ψ .cV (vcross (vv m.y) (vv m.z))) (hm.x.mono (show k ≤ 2 * (k + k) + 1 by omega)) (Vn_cV p1) (by omega) (by omega)
 rw [vv_cV] at g2
 have e : detS (mv m) = vdot (vv m.x) (vcross (vv m.y) (vv m.z)) := rfl
 rw [e]
 exact rq trivial
theorem cof_good (m : MapL) {k : Nat} (hm : Mpn k m) (hk : 0 < k) (hk2 : k < 17179869184) :
  Good P F.affine_cofactors [.d (.agg (dMap Ψ m))] [] (.d (.agg (dV Ψ (Ψ .cV (vcross (vv m.y) (vv m.z))) ++ dV Ψ (Ψ .cV (vcross (vv m.z) (vv m.x))) ++ dV Ψ (Ψ .cV (vcross (vv m.x) (vv m.y)))))) [] := by
 refine G.affine_cofactors fun C C2 hC hC2 => ?_
 have g1 := vcross_good m.y m.z hm.y hm.z hk hk2
 have g2 := vcross_good m.z m.x hm.z hm.x hk hk2
 have g3 := vcross_good m.x m.y hm.x hm.y hk hk2
 exact rq trivial
theorem columns_good (m : MapL) : Good P F.affine_columns [.d (.agg (dMap Ψ m))] []
  (.d (.agg (dV Ψ ⟨m.x.x, m.y.x, m.z.x⟩ ++ dV Ψ ⟨m.x.y, m.y.y, m.z.y⟩ ++ dV Ψ ⟨m.x.z, m.y.z, m.z.z⟩))) [] := by
 refine G.affine_columns fun C C2 hC hC2 => ?_
 exact rq trivial
end Go.K.S
end
section
namespace Go.K
open Go
end Go.K
namespace Go.K.S
open Go Go.K
theorem then1_good (r a b c : VL) {k : Nat} (hr : Vn k r) (ha : Vn k a) (hb : Vn k b) (hc : Vn k c) (hk : 0 < k) (hk2 : k < 8589934590) :
  Good P F.affine_Then_1 [.agg ((dV Ψ r).map V.d), .ptr 0 0] [.var ((dV Ψ a ++ dV Ψ b ++ dV Ψ c).map V.d)]
   (.agg ((dV Ψ (Ψ .cV ⟨vdot (vv r) (vv a), vdot (vv r) (vv b), vdot (vv r) (vv c)⟩)).map V.d)) [.var ((dV Ψ a ++ dV Ψ b ++ dV Ψ c).map V.d)] := by
 refine G.affine_Then_1 (hb := of_decide_eq_true rfl) fun C C2 hC hC2 => ?_
 have g1 := vdot_good r a hr ha hk hk2
 have g2 := vdot_good r b hr hb hk hk2
 have g3 := vdot_good r c hr hc hk hk2
 have e : Ψ .cV ⟨vdot (vv r) (vv a), vdot (vv r) (vv b), vdot (vv r) (vv c)⟩ = ⟨Ψ .cr (vdot (vv r) (vv a)), Ψ .cr (vdot (vv r) (vv b)), Ψ .cr (vdot (vv r) (vv c))⟩ := rfl
 rw [e]
 refine rq ?_
 exact ⟨[], rfl, rfl, rfl⟩
theorem then_good (a b : MapL) {k : Nat} (ha : Mpn k a) (hb : Mpn k b) (hk : 0 < k) (hk2 : k < 715000000) :
  Good P F.affine_Then [.d (.agg (dMap Ψ a)), .d (.agg (dMap Ψ b))] [] (.d (.agg (dMap Ψ (cMap Ψ (thenS (mv a) (mv b)))))) [] := by
 refine G.affine_Then fun C C2 hC hC2 => ?_
 have g0 := columns_good a
 have g1 := then1_good b.x ⟨a.x.x, a.y.x, a.z.x⟩ ⟨a.x.y, a.y.y, a.z.y⟩ ⟨a.x.z, a.y.z, a.z.z⟩ hb.x ⟨ha.x.x, ha.y.x, ha.z.x⟩ ⟨ha.x.y, ha.y.y, ha.z.y⟩ ⟨ha.x.z, ha.y.z, ha.z.z⟩ hk (by omega)
 have g2 := then1_good b.y ⟨a.x.x, a.y.x, a.z.x⟩ ⟨a.x.y, a.y.y, a.z.y⟩ ⟨a.x.z, a.y.z, a.z.z⟩ hb.y ⟨ha.x.x, ha.y.x, ha.z.x⟩ ⟨ha.x.y, ha.y.y, ha.z.y⟩ ⟨ha.x.z, ha.y.z, ha.z.z⟩ hk (by omega)
 have g3 := then1_good b.z ⟨a.x.x, a.y.x, a.z.x⟩ ⟨a.x.y, a.y.y, a.z.y⟩ ⟨a.x.z, a.y.z, a.z.z⟩ hb.z ⟨ha.x.x, ha.y.x, ha.z.x⟩ ⟨ha.x.y, ha.y.y, ha.z.y⟩ ⟨ha.x.z, ha.y.z, ha.z.z⟩ hk (by omega)
 have g4 := apply_good b a.move hb ha.move hk hk2
 have e : cMap Ψ (thenS (mv a) (mv b)) = ⟨Ψ .cV (rowS (mv a) (mv b).x), Ψ .cV (rowS (mv a) (mv b).y), Ψ .cV (rowS (mv a) (mv b).z), Ψ .cV (applyS (mv b) (vv a.move))⟩ := rfl
 rw [e]
 have er : ∀ r : V3, (⟨vdot r (vv ⟨a.x.x, a.y.x, a.z.x⟩), vdot r (vv ⟨a.x.y, a.y.y, a.z.y⟩), vdot r (vv ⟨a.x.z, a.y.z, a.z.z⟩)⟩ : V3) = rowS (mv a) r := fun r => rfl
 rw [er] at g1 g2 g3
 have x1 : vv b.x = (mv b).x := rfl
 have x2 : vv b.y = (mv b).y := rfl
 have x3 : vv b.z = (mv b).z := rfl
 rw [x1] at g1
 rw [x2] at g2
 rw [x3] at g3
 generalize Ψ .cV (rowS (mv a) (mv b).x) = R1 at *
 generalize Ψ .cV (rowS (mv a) (mv b).y) = R2 at *
 generalize Ψ .cV (rowS (mv a) (mv b).z) = R3 at *
 generalize Ψ .cV (applyS (mv b) (vv a.move)) = R4 at *
 clear er x1 x2 x3 e
 exact rq trivial
theorem stretch_good (p n : VL) (s : RL) {k : Nat} (hp : Vn k p) (hn : Vn k n) (hs : Rn k s) (hk : 0 < k) (hk2 : k < 134217728) :
  Good P F.affine_Stretch [.d (.agg (dV Ψ p)), .d (.agg (dV Ψ n)), .d (.agg (dR Ψ s))] [] (.d (.agg (dMap Ψ (cMap Ψ (stretchS (vv p) (vv n) (rv s)))))) [] := by
 refine G.affine_Stretch fun C C2 hC hC2 => ?_
 have g1 := of11_good
 have g2 := rsub_good s (Ψ .cr 1) (k := 1) hs (Rn_cr.2 Qn_one') hk (by omega) (by omega) (by omega)
 rw [rv_cr] at g2
 have q1 := (Qn_sub (Qn_rv hs hk) Qn_one').mono (show _ ≤ k + 2 by omega)
 have g3 := ident_good
 have pn := Pn_vv hn hk
 have gp := fun (x : RL) (hx : Rn k x) => prod2_good (Ψ .cr (rv s - 1)) x (Rn_cr.2 q1) (hx.mono (show k ≤ k + 2 by omega)) (by omega) (by omega)
 simp only [rv_cr] at gp
 have qp := fun (x : RL) (hx : Rn k x) => (Qn_mul q1 (Qn_rv hx hk) (by omega)).mono (show _ ≤ 2 * k + 2 by omega)
 have gs := fun (x : RL) (hx : Rn k x) => vscale_good (Ψ .cr ((rv s - 1) * rv x)) n (Rn_cr.2 (qp x hx)) (hn.mono (show k ≤ 2 * k + 2 by omega)) (by omega) (by omega)
 simp only [rv_cr] at gs
 have ps := fun (x : RL) (hx : Rn k x) => (Pn_mul (qp x hx) pn (by omega)).mono (show _ ≤ 3 * k + 2 by omega)
 have ga := fun (e : V3) (he : Pn 2 e) (x : RL) (hx : Rn k x) => vsum2_good (Ψ .cV e) (Ψ .cV (vmul ((rv s - 1) * rv x) (vv n))) (Vn_cV (he.mono (show 2 ≤ 3 * k + 2 by omega))) (Vn_cV (ps x hx)) (by omega) (by omega)
 simp only [vv_cV] at ga
 have gd := vdot_good p n hp hn hk (by omega)
 have qd := (Qn_dot (Pn_vv hp hk) pn (by omega)).mono (show _ ≤ 6 * k + 2 by omega)
 have gpd := prod2_good (Ψ .cr (rv s - 1)) (Ψ .cr (vdot (vv p) (vv n))) (Rn_cr.2 (q1.mono (show k + 2 ≤ 6 * k + 2 by omega))) (Rn_cr.2 qd) (by omega) (by omega)
 rw [rv_cr, rv_cr] at gpd
 have qpd := (Qn_mul q1 qd (by omega)).mono (show _ ≤ 7 * k + 4 by omega)
 have gn := rneg_good (Ψ .cr ((rv s - 1) * vdot (vv p) (vv n))) (Rn_cr.2 qpd) (by omega)
 rw [rv_cr] at gn
 have gm := vscale_good (Ψ .cr (-((rv s - 1) * vdot (vv p) (vv n)))) n (Rn_cr.2 (Qn_neg qpd)) (hn.mono (show k ≤ 7 * k + 4 by omega)) (by omega) (by omega)
 rw [rv_cr] at gm
 have z0 : Qn 2 0 := Qn_zero (by omega)
 have u1 : Qn 2 1 := Qn_one (by omega)
 have x1 := gp n.x hn.x
 have x2 := gs n.x hn.x
 have x3 := ga ⟨1, 0, 0⟩ ⟨u1, z0, z0⟩ n.x hn.x
 have y1 := gp n.y hn.y
 have y2 := gs n.y hn.y
 have y3 := ga ⟨0, 1, 0⟩ ⟨z0, u1, z0⟩ n.y hn.y
 have z1 := gp n.z hn.z
 have z2 := gs n.z hn.z
 have z3 := ga ⟨0, 0, 1⟩ ⟨z0, z0, u1⟩ n.z hn.z
 have e0 : cMap Ψ idM = ⟨Ψ .cV ⟨1, 0, 0⟩, Ψ .cV ⟨0, 1, 0⟩, Ψ .cV ⟨0, 0, 1⟩, Ψ .cV ⟨0, 0, 0⟩⟩ := rfl
 rw [e0] at g3
 have e : cMap Ψ (stretchS (vv p) (vv n) (rv s)) = ⟨Ψ .cV (vadd ⟨1, 0, 0⟩ (vmul ((rv s - 1) * rv n.x) (vv n))), Ψ .cV (vadd ⟨0, 1, 0⟩ (vmul ((rv s - 1) * rv n.y) (vv n))), Ψ .cV (vadd ⟨0, 0, 1⟩ (vmul ((rv s - 1) * rv n.z) (vv n))), Ψ .cV (vmul (-((rv s - 1) * vdot (vv p) (vv n))) (vv n))⟩ := rfl
 rw [e]
 clear e e0 gp gs ga ps qp
 generalize Ψ .cV ⟨1, 0, 0⟩ = I1 at *
 generalize Ψ .cV ⟨0, 1, 0⟩ = I2 at *
 generalize Ψ .cV ⟨0, 0, 1⟩ = I3 at *
 generalize Ψ .cV ⟨0, 0, 0⟩ = I4 at *
 generalize Ψ .cV (vadd ⟨1, 0, 0⟩ (vmul ((rv s - 1) * rv n.x) (vv n))) = A1 at *
 generalize Ψ .cV (vadd ⟨0, 1, 0⟩ (vmul ((rv s - 1) * rv n.y) (vv n))) = A2 at *
 generalize Ψ .cV (vadd ⟨0, 0, 1⟩ (vmul ((rv s - 1) * rv n.z) (vv n))) = A3 at *
 generalize Ψ .cV (vmul (-((rv s - 1) * vdot (vv p) (vv n))) (vv n)) = A4 at *
 exact rq trivial
end Go.K.S
end
section
namespace Go.K
open Go
theorem MapL.ext_iff' {a b : MapL} : a = b ↔ a.x = b.x ∧ a.y = b.y ∧ a.z = b.z ∧ a.move = b.move := by
 cases a; cases b; simp
instance : DecidableEq MapL := fun _ _ => decidable_of_iff _ MapL.ext_iff'.symm
instance : DecidableEq M4 := fun _ _ => decidable_of_iff _ M4.ext_iff'.symm
end Go.K
namespace Go.K.S
open Go Go.K
theorem Pn_apply {k : Nat} {m : M4} {d : V3} (hm : M4n k m) (hd : Pn k d) (hk : 0 < k) : Pn (7 * k + 3) (applyS m d) :=
 (Pn_add (Pn_turn hm hd hk) hm.move).mono (by omega)
theorem is7_good (a b : MapL) {j k : Nat} (ha : Mpn j a) (hb : Mpn k b) (hj : j < 1099511627776) (hk : k < 1099511627776) :
  Good P F.penumbraref07_Is [.d (.agg (dMap Ψ a)), .d (.agg (dMap Ψ b))] [] (.d (.b (decide (a = b)))) [] := by
 refine G.penumbraref07_Is fun C C2 hC hC2 => ?_
 have g1 := is5_good a.x b.x ha.x hb.x hj hk
 have g2 := is5_good a.y b.y ha.y hb.y hj hk
 have g3 := is5_good a.z b.z ha.z hb.z hj hk
 have g4 := is5_good a.move b.move ha.move hb.move hj hk
 have hR2 : decide (a = b) = (decide (a.x = b.x) && (decide (a.y = b.y) && (decide (a.z = b.z) && decide (a.move = b.move)))) := by
  rw [← Bool.decide_and, ← Bool.decide_and, ← Bool.decide_and]
  exact decide_eq_decide.2 MapL.ext_iff'
 rw [hR2]
 clear hR2
 generalize decide (a.x = b.x) = t1 at *
 generalize decide (a.y = b.y) = t2 at *
 generalize decide (a.z = b.z) = t3 at *
 generalize decide (a.move = b.move) = t4 at *
 cases t1
 ·exact rq trivial
 cases t2
 ·exact rq trivial
 cases t3
 ·exact rq trivial
 cases t4
 all_goals exact rq trivial
theorem ident7_good : Good P F.penumbraref07_Identity [] [] (.d (.agg (dMap Ψ (cMap Ψ idM)))) [] := by
 refine G.penumbraref07_Identity fun C C2 hC hC2 => ?_
 have g1 := of5_good 1 0 0 (by omega) (by omega) (by omega) (by omega) (by omega) (by omega)
 have g2 := of5_good 0 1 0 (by omega) (by omega) (by omega) (by omega) (by omega) (by omega)
 have g3 := of5_good 0 0 1 (by omega) (by omega) (by omega) (by omega) (by omega) (by omega)
 have g4 := zero5_good
 have e : cMap Ψ idM = ⟨Ψ .cV ⟨((1 : Int) : Rat), ((0 : Int) : Rat), ((0 : Int) : Rat)⟩, Ψ .cV ⟨((0 : Int) : Rat), ((1 : Int) : Rat), ((0 : Int) : Rat)⟩, Ψ .cV ⟨((0 : Int) : Rat), ((0 : Int) : Rat), ((1 : Int) : Rat)⟩, Ψ .cV v0⟩ := rfl
 rw [e]
 generalize Ψ .cV ⟨((1 : Int) : Rat), ((0 : Int) : Rat), ((0 : Int) : Rat)⟩ = A at *
 generalize Ψ .cV ⟨((0 : Int) : Rat), ((1 : Int) : Rat), ((0 : Int) : Rat)⟩ = B at *
 generalize Ψ .cV ⟨((0 : Int) : Rat), ((0 : Int) : Rat), ((1 : Int) : Rat)⟩ = C3 at *
 generalize Ψ .cV v0 = D4 at *
 exact rq trivial
theorem turn7_good (m : MapL) (d : VL) {k : Nat} (hm : Mpn k m) (hd : Vn k d) (hk : 0 < k) (hk2 : k < 8589934590) :
  Good P F.penumbraref07_Turn [.d (.agg (dMap Ψ m)), .d (.agg (dV Ψ d))] [] (.d (.agg (dV Ψ (Ψ .cV (turnS (mv m) (vv d)))))) [] := by
 refine G.penumbraref07_Turn fun C C2 hC hC2 => ?_
 have g1 := dot5_good m.x d hm.x hd hk hk hk2 hk2
 have g2 := dot5_good m.y d hm.y hd hk hk hk2 hk2
 have g3 := dot5_good m.z d hm.z hd hk hk hk2 hk2
 have e : Ψ .cV (turnS (mv m) (vv d)) = ⟨Ψ .cr (vdot (vv m.x) (vv d)), Ψ .cr (vdot (vv m.y) (vv d)), Ψ .cr (vdot (vv m.z) (vv d))⟩ := rfl
 rw [e]
 exact rq trivial
theorem apply7_good (m : MapL) (d : VL) {k : Nat} (hm : Mpn k m) (hd : Vn k d) (hk : 0 < k) (hk2 : k < 8589934590) :
  Good P F.penumbraref07_Apply [.d (.agg (dMap Ψ m)), .d (.agg (dV Ψ d))] [] (.d (.agg (dV Ψ (Ψ .cV (applyS (mv m) (vv d)))))) [] := by
 refine G.penumbraref07_Apply fun C C2 hC hC2 => ?_
 have g1 := turn7_good m d hm hd hk (by omega)
 have p1 := Pn_turn (M4n_mv hm hk) (Pn_vv hd hk) hk
 have g2 := add5_good (Ψ .cV (turnS (mv m) (vv d))) m.move (Vn_cV p1) (hm.move.mono (show k ≤ 6 * k + 2 by omega)) (by omega)
 rw [vv_cV] at g2
 have e : applyS (mv m) (vv d) = vadd (turnS (mv m) (vv d)) (vv m.move) := rfl
 rw [e]
 exact rq trivial
theorem told7_good (o x y z : V3) {k : Nat} (ho : Pn k o) (hx : Pn k x) (hy : Pn k y) (hz : Pn k z) (hk : 0 < k) (hk2 : k < 68719476736) :
  Good P F.penumbraref07_Told [.d (.agg (dV Ψ (Ψ .cV o))), .d (.agg (dV Ψ (Ψ .cV x))), .d (.agg (dV Ψ (Ψ .cV y))), .d (.agg (dV Ψ (Ψ .cV z)))] [] (.d (.agg (dMap Ψ (cMap Ψ (toldS o x y z))))) [] := by
 refine G.penumbraref07_Told fun C C2 hC hC2 => ?_
 have g1 := sub5_good (Ψ .cV x) (Ψ .cV o) (Vn_cV hx) (Vn_cV ho) hk hk2 hk2
 have g2 := sub5_good (Ψ .cV y) (Ψ .cV o) (Vn_cV hy) (Vn_cV ho) hk hk2 hk2
 have g3 := sub5_good (Ψ .cV z) (Ψ .cV o) (Vn_cV hz) (Vn_cV ho) hk hk2 hk2
 simp only [vv_cV] at g1 g2 g3
 have e : cMap Ψ (toldS o x y z) = ⟨⟨(Ψ .cV (vsub x o)).x, (Ψ .cV (vsub y o)).x, (Ψ .cV (vsub z o)).x⟩, ⟨(Ψ .cV (vsub x o)).y, (Ψ .cV (vsub y o)).y, (Ψ .cV (vsub z o)).y⟩, ⟨(Ψ .cV (vsub x o)).z, (Ψ .cV (vsub y o)).z, (Ψ .cV (vsub z o)).z⟩, Ψ .cV o⟩ := rfl
 rw [e]
 generalize Ψ .cV (vsub x o) = A at *
 generalize Ψ .cV (vsub y o) = B at *
 generalize Ψ .cV (vsub z o) = C3 at *
 exact rq trivial
theorem e0_good : Good P F.penumbraref05_Of [.d (.i .i64 1), .d (.i .i64 0), .d (.i .i64 0)] [] (.d (.agg (dV Ψ (Ψ .cV e1)))) [] := of5_good 1 0 0 (by omega) (by omega) (by omega) (by omega) (by omega) (by omega)
theorem e1_good : Good P F.penumbraref05_Of [.d (.i .i64 0), .d (.i .i64 1), .d (.i .i64 0)] [] (.d (.agg (dV Ψ (Ψ .cV e2)))) [] := of5_good 0 1 0 (by omega) (by omega) (by omega) (by omega) (by omega) (by omega)
theorem e2_good : Good P F.penumbraref05_Of [.d (.i .i64 0), .d (.i .i64 0), .d (.i .i64 1)] [] (.d (.agg (dV Ψ (Ψ .cV e3)))) [] := of5_good 0 0 1 (by omega) (by omega) (by omega) (by omega) (by omega) (by omega)
theorem Pn_e1 {k : Nat} (hk : 0 < k) : Pn k e1 := ⟨Qn_one hk, Qn_zero hk, Qn_zero hk⟩
theorem Pn_e2 {k : Nat} (hk : 0 < k) : Pn k e2 := ⟨Qn_zero hk, Qn_one hk, Qn_zero hk⟩
theorem Pn_e3 {k : Nat} (hk : 0 < k) : Pn k e3 := ⟨Qn_zero hk, Qn_zero hk, Qn_one hk⟩
theorem then7_good (a b : MapL) {k : Nat} (ha : Mpn k a) (hb : Mpn k b) (hk : 0 < k) (hk2 : k < 536870912) :
  Good P F.penumbraref07_Then [.d (.agg (dMap Ψ a)), .d (.agg (dMap Ψ b))] [] (.d (.agg (dMap Ψ (cMap Ψ (thenS (mv a) (mv b)))))) [] := by
 refine G.penumbraref07_Then fun C C2 hC hC2 => ?_
 have g0 := zero5_good
 have g1 := e0_good
 have g2 := e1_good
 have g3 := e2_good
 have hma := M4n_mv ha hk
 have hmb := M4n_mv hb hk
 have ga := fun (e : V3) (he : Pn k e) => apply7_good a (Ψ .cV e) ha (Vn_cV he) hk (by omega)
 have gb := fun (e : V3) (he : Pn k e) => apply7_good b (Ψ .cV (applyS (mv a) e)) (k := 7 * k + 3) (hb.mono (by omega)) (Vn_cV (Pn_apply hma he hk)) (by omega) (by omega)
 simp only [vv_cV] at ga gb
 have pe := fun (e : V3) (he : Pn k e) => (Pn_add (Pn_turn (hmb.mono (show k ≤ 7 * k + 3 by omega)) (Pn_apply hma he hk) (by omega)) hmb.move).mono (show _ ≤ 43 * k + 21 by omega)
 have gt := told7_good _ _ _ _ (pe v0 (Pn_v0 hk)) (pe e1 (Pn_e1 hk)) (pe e2 (Pn_e2 hk)) (pe e3 (Pn_e3 hk)) (by omega) (by omega)
 have a0 := ga v0 (Pn_v0 hk)
 have a1 := ga e1 (Pn_e1 hk)
 have a2 := ga e2 (Pn_e2 hk)
 have a3 := ga e3 (Pn_e3 hk)
 have b0 := gb v0 (Pn_v0 hk)
 have b1 := gb e1 (Pn_e1 hk)
 have b2 := gb e2 (Pn_e2 hk)
 have b3 := gb e3 (Pn_e3 hk)
 have et : toldS (vadd (turnS (mv b) (applyS (mv a) v0)) (mv b).move) (vadd (turnS (mv b) (applyS (mv a) e1)) (mv b).move) (vadd (turnS (mv b) (applyS (mv a) e2)) (mv b).move) (vadd (turnS (mv b) (applyS (mv a) e3)) (mv b).move) = thenS (mv a) (mv b) := (then_told (mv a) (mv b)).symm
 rw [et] at gt
 have eb : ∀ e : V3, vadd (turnS (mv b) (applyS (mv a) e)) (mv b).move = applyS (mv b) (applyS (mv a) e) := fun e => rfl
 rw [eb, eb, eb, eb] at gt
 clear ga gb pe et eb
 generalize cMap Ψ (thenS (mv a) (mv b)) = R at *
 generalize Ψ .cV (applyS (mv b) (applyS (mv a) v0)) = B0 at *
 generalize Ψ .cV (applyS (mv b) (applyS (mv a) e1)) = B1 at *
 generalize Ψ .cV (applyS (mv b) (applyS (mv a) e2)) = B2 at *
 generalize Ψ .cV (applyS (mv b) (applyS (mv a) e3)) = B3 at *
 generalize Ψ .cV (applyS (mv a) v0) = A0 at *
 generalize Ψ .cV (applyS (mv a) e1) = A1 at *
 generalize Ψ .cV (applyS (mv a) e2) = A2 at *
 generalize Ψ .cV (applyS (mv a) e3) = A3 at *
 generalize Ψ .cV v0 = E0 at *
 generalize Ψ .cV e1 = E1 at *
 generalize Ψ .cV e2 = E2 at *
 generalize Ψ .cV e3 = E3 at *
 exact rq trivial
theorem Pn_stretched {k : Nat} {p n x : V3} {s : Rat} (hp : Pn k p) (hn : Pn k n) (hs : Qn k s) (hx : Pn k x) (hk : 0 < k) : Pn (13 * k + 9) (stretchedS p n s x) :=
 (Pn_add hx (Pn_mul (Qn_mul (Qn_sub hs Qn_one') (Qn_dot (Pn_sub hx hp) hn (by omega)) (by omega)) hn (by omega))).mono (by omega)
theorem stretched7_good (p n : VL) (s : RL) (x : V3) {k : Nat} (hp : Vn k p) (hn : Vn k n) (hs : Rn k s) (hx : Pn k x) (hk : 0 < k) (hk2 : k < 536870912) :
  Good P F.penumbraref07_stretched [.d (.agg (dV Ψ p)), .d (.agg (dV Ψ n)), .d (.agg (dR Ψ s)), .d (.agg (dV Ψ (Ψ .cV x)))] [] (.d (.agg (dV Ψ (Ψ .cV (stretchedS (vv p) (vv n) (rv s) x))))) [] := by
 refine G.penumbraref07_stretched fun C C2 hC hC2 => ?_
 have g1 := one3_good
 have g2 := sub3_good s (Ψ .cr 1) hs (Rn_cr.2 Qn_one') (by omega) (by omega) (by omega)
 have g3 := sub5_good (Ψ .cV x) p (Vn_cV hx) hp hk (by omega) (by omega)
 rw [rv_cr] at g2
 rw [vv_cV] at g3
 have q1 := Qn_sub (Qn_rv hs hk) Qn_one'
 have p3 := Pn_sub hx (Pn_vv hp hk)
 have g4 := dot5_good (Ψ .cV (vsub x (vv p))) n (Vn_cV p3) hn (by omega) hk (by omega) (by omega)
 rw [vv_cV] at g4
 have q4 := Qn_dot p3 (Pn_vv hn hk) (by omega)
 have g5 := mul3_good (Ψ .cr (rv s - 1)) (Ψ .cr (vdot (vsub x (vv p)) (vv n))) (Rn_cr.2 q1) (Rn_cr.2 q4) (by omega) (by omega)
 rw [rv_cr, rv_cr] at g5
 have q5 := (Qn_mul q1 q4 (by omega)).mono (show _ ≤ 10 * k + 7 by omega)
 have g6 := scale5_good (Ψ .cr ((rv s - 1) * vdot (vsub x (vv p)) (vv n))) n (Rn_cr.2 q5) (hn.mono (show k ≤ 10 * k + 7 by omega)) (by omega)
 rw [rv_cr] at g6
 have p6 := (Pn_mul q5 (Pn_vv hn hk) (by omega)).mono (show _ ≤ 11 * k + 7 by omega)
 have g7 := add5_good (Ψ .cV x) (Ψ .cV (vmul ((rv s - 1) * vdot (vsub x (vv p)) (vv n)) (vv n))) (Vn_cV (hx.mono (show k ≤ 11 * k + 7 by omega))) (Vn_cV p6) (by omega)
 rw [vv_cV, vv_cV] at g7
 have e : stretchedS (vv p) (vv n) (rv s) x = vadd x (vmul ((rv s - 1) * vdot (vsub x (vv p)) (vv n)) (vv n)) := rfl
 rw [e]
 generalize Ψ .cV (vadd x (vmul ((rv s - 1) * vdot (vsub x (vv p)) (vv n)) (vv n))) = R at *
 generalize Ψ .cr 1 = N1 at *
 exact rq trivial
theorem stretch7_good (p n : VL) (s : RL) {k : Nat} (hp : Vn k p) (hn : Vn k n) (hs : Rn k s) (hk : 0 < k) (hk2 : k < 536870912) :
  Good P F.penumbraref07_Stretch [.d (.agg (dV Ψ p)), .d (.agg (dV Ψ n)), .d (.agg (dR Ψ s))] [] (.d (.agg (dMap Ψ (cMap Ψ (stretchS (vv p) (vv n) (rv s)))))) [] := by
 refine G.penumbraref07_Stretch fun C C2 hC hC2 => ?_
 have g0 := zero5_good
 have g1 := e0_good
 have g2 := e1_good
 have g3 := e2_good
 have a0 := stretched7_good p n s v0 hp hn hs (Pn_v0 hk) hk (by omega)
 have a1 := stretched7_good p n s e1 hp hn hs (Pn_e1 hk) hk (by omega)
 have a2 := stretched7_good p n s e2 hp hn hs (Pn_e2 hk) hk (by omega)
 have a3 := stretched7_good p n s e3 hp hn hs (Pn_e3 hk) hk (by omega)
 have pe := fun (e : V3) (he : Pn k e) => Pn_stretched (Pn_vv hp hk) (Pn_vv hn hk) (Qn_rv hs hk) he hk
 have gt := told7_good _ _ _ _ (pe v0 (Pn_v0 hk)) (pe e1 (Pn_e1 hk)) (pe e2 (Pn_e2 hk)) (pe e3 (Pn_e3 hk)) (by omega) (by omega)
 rw [← stretch_told] at gt
 clear pe
 generalize cMap Ψ (stretchS (vv p) (vv n) (rv s)) = R at *
 generalize Ψ .cV (stretchedS (vv p) (vv n) (rv s) v0) = B0 at *
 generalize Ψ .cV (stretchedS (vv p) (vv n) (rv s) e1) = B1 at *
 generalize Ψ .cV (stretchedS (vv p) (vv n) (rv s) e2) = B2 at *
 generalize Ψ .cV (stretchedS (vv p) (vv n) (rv s) e3) = B3 at *
 generalize Ψ .cV v0 = E0 at *
 generalize Ψ .cV e1 = E1 at *
 generalize Ψ .cV e2 = E2 at *
 generalize Ψ .cV e3 = E3 at *
 exact rq trivial
end Go.K.S
end
section
namespace Go.K
open Go
def faceU (f : FaceL) : VL := Ψ .cV (unitR (normS (tv f.tri))).1
def faceA (f : FaceL) : RL := Ψ .cr ((unitR (normS (tv f.tri))).2 * (1 / 2))
def trisL (s : ScL) (i : Nat) : List TL := (s.faces.take i).map fun f => f.tri
def unitsL (s : ScL) (i : Nat) : List VL := (s.faces.take i).map faceU
def areasL (s : ScL) (i : Nat) : List RL := (s.faces.take i).map faceA
def kindOf (s : ScL) (f : FaceL) : Int := match s.mats[f.mat.toNat]? with | some m => m.kind | none => 0
def lightsL (s : ScL) : Nat → List Nat
 | 0 => []
 | i + 1 => match s.faces[i]? with
  | some f => if kindOf s f = 3 then lightsL s i ++ [i] else lightsL s i
  | none => lightsL s i
def rcell (Ψ : (t : Sd) → STy t) (MD FD : List D) (s : ScL) (t u v w x y : V) : List V := (dSc Ψ MD FD s).map V.d ++ [t, u, v, w, x, y]
theorem tl_succ {s : ScL} {i : Nat} {f : FaceL} (h : s.faces[i]? = some f) : trisL s (i + 1) = trisL s i ++ [f.tri] := by
 unfold trisL; rw [take_succ_of h, List.map_append]; rfl
theorem ul_succ {s : ScL} {i : Nat} {f : FaceL} (h : s.faces[i]? = some f) : unitsL s (i + 1) = unitsL s i ++ [faceU f] := by
 unfold unitsL; rw [take_succ_of h, List.map_append]; rfl
theorem al_succ {s : ScL} {i : Nat} {f : FaceL} (h : s.faces[i]? = some f) : areasL s (i + 1) = areasL s i ++ [faceA f] := by
 unfold areasL; rw [take_succ_of h, List.map_append]; rfl
theorem lights_len (s : ScL) : ∀ i, (lightsL s i).length ≤ i
 | 0 => Nat.le_refl _
 | i + 1 => by
  have := lights_len s i
  rw [lightsL]
  split
  ·split
   ·rw [List.length_append]; simp; exact this
   ·omega
  ·omega
structure ScOk (s : ScL) : Prop where
 n : Sc2 s
 w1 : 1 ≤ s.waves.length
 w2 : s.waves.length ≤ 8
 m : s.mats.length ≤ 32
 f1 : 1 ≤ s.faces.length
 f2 : s.faces.length ≤ 64
 wp : ∀ r, r ∈ s.waves → 0 < rv r
 mb : ∀ m, m ∈ s.mats → matB s.waves m = true
 fb : ∀ f, f ∈ s.faces → (unitS (normS (tv f.tri))).isSome = true ∧ 0 ≤ f.mat ∧ f.mat < s.mats.length
theorem scOk_of {s : ScL} (h : checkS s = 0) : ScOk s := by
 unfold checkS at h
 by_cases h1 : manyB s = false
 ·rw [if_pos h1] at h; exact absurd h (by decide)
 rw [if_neg h1] at h
 by_cases h2 : sizesS s = false
 ·rw [if_pos h2] at h; exact absurd h (by decide)
 rw [if_neg h2] at h
 by_cases h3 : (s.waves.all fun x => decide (0 < rv x)) = false
 ·rw [if_pos h3] at h; exact absurd h (by decide)
 rw [if_neg h3] at h
 by_cases h4 : s.mats.all (matB s.waves) = false
 ·rw [if_pos h4] at h; exact absurd h (by decide)
 rw [if_neg h4] at h
 by_cases h5 : s.faces.all (faceB s.mats.length) = false
 ·rw [if_pos h5] at h; exact absurd h (by decide)
 have h1' : manyB s = true := by simpa using h1
 unfold manyB at h1'
 simp only [Bool.and_eq_true, decide_eq_true_eq] at h1'
 obtain ⟨c1, c2, c3, c4, c5⟩ := h1'
 have h3' : (s.waves.all fun x => decide (0 < rv x)) = true := by simpa using h3
 have h4' : s.mats.all (matB s.waves) = true := by simpa using h4
 have h5' : s.faces.all (faceB s.mats.length) = true := by simpa using h5
 refine ⟨sc2_of (by simpa using h2), c1, c2, c3, c4, c5, fun r hr => of_decide_eq_true (all_of h3' hr), fun m hm => all_of h4' hm, fun f hf => ?_⟩
 have := all_of h5' hf
 unfold faceB at this
 simp only [Bool.and_eq_true, decide_eq_true_eq] at this
 exact ⟨this.1, this.2.1, this.2.2⟩
theorem triH_map {tris : List TL} (h : tris.length < 268435456) : TriH tris (tris.map fun t => .agg (dT Ψ t)) :=
 ⟨fun i t ht => by rw [w_sget, List.getElem?_map, ht]; rfl, by rw [w_slen, List.length_map], h⟩
def trisD (l : List TL) : List D := l.map fun t => .agg (dT Ψ t)
theorem trisD_snoc (l : List TL) (t : TL) : Ω .scat (trisD l) [.agg (dT Ψ t)] = trisD (l ++ [t]) := by simp [trisD, w_scat]
theorem scat_dVs' (l m : List VL) : Ω .scat (Ψ .dVs l) (Ψ .dVs m) = Ψ .dVs (l ++ m) := by simp [w_scat, p_dVs]
theorem slen_trisD (l : List TL) : Ω .slen (trisD l) = l.length := by simp [trisD, w_slen]
end Go.K
namespace Go.K.S
open Go Go.K
theorem new_bad (s : ScL) {MD FD : List D} (hD : ScD s MD FD) {k : Nat} (hs : Scn k s) (hk0 : 0 < k) (hk : k < 137438953472) (h : checkS s ≠ 0) :
  Good P F.ready_New [.agg ((dSc Ψ MD FD s).map V.d)] [] (.tup [.d .np, .d (.b false)]) [] := by
 refine G.ready_New (hb := of_decide_eq_true rfl) fun C C2 hC hC2 => ?_
 have g1 := scheck_good s hD hs hk0 hk
 generalize checkS s = e at *
 have q1 : Ω .ne e 0 = true := ne_true'.2 h
 refine rq ?_
 exact ⟨[], rfl, rfl, rfl⟩
theorem new_good (s : ScL) {MD FD : List D} (hD : ScD s MD FD) {k : Nat} (hs : Scn k s) (hk0 : 0 < k) (hk : k < 137438953472) (h : checkS s = 0) :
  Good P F.ready_New [.agg ((dSc Ψ MD FD s).map V.d)] [] (.tup [.ptr 0 0, .d (.b true)])
   [.var (rcell Ψ MD FD s (.own 1 27) (.d (.sl (nodesD (buildS (trisL s s.faces.length)).nodes))) (.d (.sl (oD (buildS (trisL s s.faces.length)).order))) (.own 2 9) (.own 3 3) (.own 4 1)),
    .row false T.api_Tri 27 (trisD (trisL s s.faces.length)), .row true T.api_Vec 9 (Ψ .dVs (unitsL s s.faces.length)), .row true T.api_Rat 3 (Ψ .dRs (areasL s s.faces.length)), .row true T.int 1 (oD (lightsL s s.faces.length))] := by
 refine G.ready_New (hb := of_decide_eq_true rfl) fun C C2 hC hC2 => ?_
 have g1 := scheck_good s hD hs hk0 hk
 have ok := scOk_of h
 rw [h] at g1
 have hfl := hD.fl
 have hml := hD.ml
 have f2 := ok.f2
 have htn : ∀ i, ∀ t, t ∈ trisL s i → Tn 2 t := fun i t ht => by
  obtain ⟨f, hf, rfl⟩ := List.mem_map.1 ht
  exact ok.n.fv f (List.mem_of_mem_take hf)
 have hlt : ∀ i, i ≤ s.faces.length → (trisL s i).length = i := fun i hi => by unfold trisL; rw [List.length_map, List.length_take]; omega
 have hlu : ∀ i, i ≤ s.faces.length → (unitsL s i).length = i := fun i hi => by unfold unitsL; rw [List.length_map, List.length_take]; omega
 have hla : ∀ i, i ≤ s.faces.length → (areasL s i).length = i := fun i hi => by unfold areasL; rw [List.length_map, List.length_take]; omega
 have hll := lights_len s
 have H := triH_map (tris := trisL s s.faces.length) (by rw [hlt _ (Nat.le_refl _)]; omega)
 have gb := build_good (tris := trisL s s.faces.length) (TD := trisD (trisL s s.faces.length)) (k := 2) H.t H.tl (by rw [hlt _ (Nat.le_refl _)]; omega) (htn _) (by omega) (by omega)
 have hstep : ∀ i, i < s.faces.length → ∃ f m, Ω .sget FD i = some (.agg (dFace Ψ f)) ∧ Ω .sget MD f.mat.toNat = some (.agg (dMat Ψ m)) ∧ f.mat = Ω .ci f.mat.toNat ∧
   Good P F.tri_Unit [.d (.agg (dT Ψ f.tri))] [] (.tup [.d (.agg (dV Ψ (faceU f))), .d (.agg (dR Ψ (faceA f))), .d (.b true)]) [] ∧
   Ω .scat (trisD (trisL s i)) [.agg (dT Ψ f.tri)] = trisD (trisL s (i + 1)) ∧ Ω .scat (Ψ .dVs (unitsL s i)) [.agg (dV Ψ (faceU f))] = Ψ .dVs (unitsL s (i + 1)) ∧ Ω .scat (Ψ .dRs (areasL s i)) [.agg (dR Ψ (faceA f))] = Ψ .dRs (areasL s (i + 1)) ∧
   (m.kind = 3 → Ω .scat (oD (lightsL s i)) [.i .i64 (Ω .ci i)] = oD (lightsL s (i + 1))) ∧ (m.kind ≠ 3 → lightsL s (i + 1) = lightsL s i) := fun i hi => by
  obtain ⟨f, hf⟩ : ∃ f, s.faces[i]? = some f := ⟨_, List.getElem?_eq_getElem hi⟩
  have hfm := List.mem_of_getElem? hf
  obtain ⟨u1, u2, u3⟩ := ok.fb f hfm
  obtain ⟨m, hm⟩ : ∃ m, s.mats[f.mat.toNat]? = some m := ⟨_, List.getElem?_eq_getElem (by omega)⟩
  have gu := tunit_good f.tri (ok.n.fv f hfm) (by omega) (by omega)
  rw [u1] at gu
  have kk : kindOf s f = m.kind := by unfold kindOf; rw [hm]
  refine ⟨f, m, hD.f i f hf, hD.m _ m hm, by rw [w_ci]; omega, gu, ?_, ?_, ?_, fun h3 => ?_, fun h3 => ?_⟩
  ·rw [tl_succ hf, ← trisD_snoc]
  ·rw [ul_succ hf, ← scat_dVs']; rfl
  ·rw [al_succ hf, ← scat_dRs]; rfl
  ·rw [lightsL, hf]
   simp only
   rw [if_pos (kk.trans h3), oD_ok.cat]
  ·rw [lightsL, hf]
   simp only
   rw [if_neg (fun c => h3 (kk.symm.trans c))]
 have ht0 : trisD (trisL s 0) = [] := rfl
 have hu0 : Ψ .dVs (unitsL s 0) = [] := rfl
 have ha0 : Ψ .dRs (areasL s 0) = [] := rfl
 have hl0 : oD (lightsL s 0) = [] := rfl
 have lt' : ∀ i, i ≤ s.faces.length → Ω .slen (trisD (trisL s i)) = i := fun i hi => by rw [slen_trisD, hlt i hi]
 have ll' : ∀ i, Ω .slen (oD (lightsL s i)) = (lightsL s i).length := fun i => oD_ok.len _
 clear H htn hD hs h hlt
 generalize nodesD (buildS (trisL s s.faces.length)).nodes = ND at *
 generalize oD (buildS (trisL s s.faces.length)).order = OD at *
 obtain ⟨TT, hTT⟩ : ∃ T : Nat → List D, T = fun i => trisD (trisL s i) := ⟨_, rfl⟩
 have eT : ∀ i, trisD (trisL s i) = TT i := fun i => by rw [hTT]
 obtain ⟨LL, hLL⟩ : ∃ T : Nat → List D, T = fun i => oD (lightsL s i) := ⟨_, rfl⟩
 have eL : ∀ i, oD (lightsL s i) = LL i := fun i => by rw [hLL]
 have hL2 : ∀ i m, lightsL s m = lightsL s i → LL m = LL i := fun i m h => by rw [← eL, ← eL, h]
 simp only [eT, eL] at gb hstep ht0 hl0 lt' ll' ⊢
 clear eT eL hTT hLL
 generalize unitsL s = UU at *
 generalize areasL s = AA at *
 generalize s.faces.length = nf at *
 have q1 : Ω .ne 0 0 = false := rfl
 refine rq ?_
 rw [hfl]
 refine LoopG.introB (σ := Nat) [.cell 1302 26 900001 T.api_Tri 27, .cell 1302 29 900002 T.api_Vec 9, .cell 1302 30 900003 T.api_Rat 3, .cell 1302 31 900004 T.int 1] [1, 4, 17, 18, 19] [1050, 1051, 1052, 1053, 1054, 1055]
  (fun i => [.ptr 1050 0, .ptr 1051 0, .d (.sl FD), .d (.i .i64 (Ω .ci nf)), .d (.i .i64 (Ω .ci i))])
  (fun i => [.var ((dSc Ψ MD FD s).map V.d), .var (rcell Ψ MD FD s (.own 1052 27) .nil .nil (.own 1053 9) (.own 1054 3) (.own 1055 1)), .row true T.api_Tri 27 (TT i), .row true T.api_Vec 9 (Ψ .dVs (UU i)), .row true T.api_Rat 3 (Ψ .dRs (AA i)), .row true T.int 1 (LL i)])
  (fun i => i ≤ nf)
  (fun i => nf - i) 0 [1000, 1302, 900001, 900002, 900003, 900004] (Nat.zero_le _) ⟨rfl, rfl, (by rw [ht0, hu0, ha0, hl0]; rfl)⟩ ?_
 intro i hi
 have hw := wrap_succ (n := i) (by omega)
 have l1 := lt' i hi
 have l2 := hlu i hi
 have l3 := hla i hi
 have l4 := hll i
 have l5 := ll' i
 rcases Nat.lt_or_ge i nf with hlt | hge
 ·obtain ⟨f, m, x1, x2, x3, x4, x5, x6, x7, x8, x9⟩ := hstep i hlt
  have q0 : Ω .lt (Ω .ci i) (Ω .ci nf) = true := by simp only [wz]; omega
  have hL2' := hL2 i (i + 1)
  clear hstep lt' hlu hla hll ll' gb hL2
  generalize faceU f = U at *
  generalize faceA f = A at *
  obtain ⟨ft, fm⟩ := f
  simp only at x2 x3
  generalize fm.toNat = mi at *
  subst x3
  by_cases h3 : m.kind = 3
  ·have q3 : Ω .eq m.kind 3 = true := eq_true'.2 h3
   have x8' := x8 h3
   refine rq ?_
   refine ⟨i + 1, [1050, 1051, 1808, 1907, 2007, 2207], hlt, by omega, rfl, ?_, (by rw [← x5, ← x6, ← x7, ← x8']; rfl)⟩
   refine Eq.trans (b := [.ptr 1050 0, .ptr 1051 0, .d (.sl FD), .d (.i .i64 (Ω .ci nf)), .d (.i .i64 _)]) rfl ?_
   rw [hw]
  ·have q3 : Ω .eq m.kind 3 = false := eq_false'.2 h3
   have x9' := hL2' (x9 h3)
   refine rq ?_
   refine ⟨i + 1, [1050, 1051, 1808, 1907, 2007, 1055], hlt, by omega, rfl, ?_, (by rw [← x5, ← x6, ← x7, x9']; rfl)⟩
   refine Eq.trans (b := [.ptr 1050 0, .ptr 1051 0, .d (.sl FD), .d (.i .i64 (Ω .ci nf)), .d (.i .i64 _)]) rfl ?_
   rw [hw]
 ·obtain rfl : i = nf := by omega
  have q0 : Ω .lt (Ω .ci i) (Ω .ci i) = false := by simp only [wz]; omega
  clear hstep lt' hlu hla hll ll' hL2
  refine rq ?_
  exact ⟨[1051, 1052, 1053, 1054, 1055], rfl, rfl, rfl⟩
end Go.K.S
end
section
namespace Go.K
open Go
def rblks (Ψ : (t : Sd) → STy t) (MD FD ND OD TD UD AD LD : List D) (s : ScL) (tri vec rat int : TypeId) : List Blk :=
 [.var (rcell Ψ MD FD s (.own 1 27) (.d (.sl ND)) (.d (.sl OD)) (.own 2 9) (.own 3 3) (.own 4 1)), .row false tri 27 TD, .row true vec 9 UD, .row true rat 3 AD, .row true int 1 LD]
def bendM (waves : List RL) (m : MatL) (bin : Nat) (front : Bool) : Option Rat :=
 if m.kind = 1 then some (-1) else if m.kind = 2 then some (if front then (etaM waves m bin).getD 0 else 1 / (etaM waves m bin).getD 0) else none
end Go.K
namespace Go.K.S
open Go Go.K
theorem mat_good (s : ScL) {MD FD ND OD TD UD AD LD : List D} (hD : ScD s MD FD) {face mi : Nat} {f : FaceL} {m : MatL} (hf : s.faces[face]? = some f) (hm : s.mats[mi]? = some m) (hfm : f.mat = Ω .ci mi) :
  Good P F.P_ready_Scene_Mat [.ptr 0 0, .d (.i .i64 (Ω .ci face))] (rblks Ψ MD FD ND OD TD UD AD LD s T.api_Tri T.api_Vec T.api_Rat T.int) (.agg ((dMat Ψ m).map V.d)) (rblks Ψ MD FD ND OD TD UD AD LD s T.api_Tri T.api_Vec T.api_Rat T.int) := by
 refine G.P_ready_Scene_Mat (hb := of_decide_eq_true rfl) fun C C2 hC hC2 => ?_
 have x1 := hD.f face f hf
 have x2 := hD.m mi m hm
 obtain ⟨ft, fm⟩ := f
 simp only at hfm
 subst hfm
 refine rq ?_
 exact ⟨[], rfl, rfl, rfl⟩
theorem ofm1_good : Good P F.rat_Of [.d (.i .i64 (-1)), .d (.i .i64 1)] [] (.d (.agg (dR Ψ (Ψ .cr (-1))))) [] := by
 have g := rof_good (-1) 1 (by omega) (by omega) (by omega) (by omega)
 have e1 : ((-1 : Int) : Rat) / ((1 : Int) : Rat) = -1 := by
  have h1 : ((1 : Int) : Rat) = 1 := rfl
  have h2 : ((-1 : Int) : Rat) = -1 := rfl
  rw [h1, h2]; grind
 rw [e1] at g
 exact g
theorem eta_n {s : ScL} {m : MatL} {bin : Nat} {k : Nat} (ha : Rn k m.a) (hb : Rn k m.b) (hw : ∀ r, r ∈ s.waves → Rn k r) (hk : 0 < k) : Qn (6 * k) ((etaM s.waves m bin).getD 0) := by
 unfold etaM
 cases h : s.waves[bin]? with
 | none => exact Qn_zero (by omega)
 | some w =>
  have hwk := Qn_rv (hw w (List.mem_of_getElem? h)) hk
  simp only
  split
  ·exact (Qn_add (Qn_rv ha hk) (Qn_div (Qn_rv hb hk) (Qn_mul hwk hwk (by omega)) (by omega))).mono (by omega)
  ·exact Qn_zero (by omega)
theorem bend_good (s : ScL) {MD FD ND OD TD UD AD LD : List D} (hD : ScD s MD FD) {face mi bin : Nat} {f : FaceL} {m : MatL} (hf : s.faces[face]? = some f) (hm : s.mats[mi]? = some m) (hfm : f.mat = Ω .ci mi) (hbin : bin < s.waves.length)
  (ha : Rn 2 m.a) (hb : Rn 2 m.b) (hw : ∀ r, r ∈ s.waves → Rn 2 r) (front : Bool) :
  Good P F.P_ready_Scene_Bend [.ptr 0 0, .d (.i .i64 (Ω .ci face)), .d (.i .i64 (Ω .ci bin)), .d (.b front)] (rblks Ψ MD FD ND OD TD UD AD LD s T.api_Tri T.api_Vec T.api_Rat T.int)
   (.tup [.agg ((dR Ψ (Ψ .cr ((bendM s.waves m bin front).getD 0))).map V.d), .d (.b (bendM s.waves m bin front).isSome)]) (rblks Ψ MD FD ND OD TD UD AD LD s T.api_Tri T.api_Vec T.api_Rat T.int) := by
 refine G.P_ready_Scene_Bend (hb := of_decide_eq_true rfl) fun C C2 hC hC2 => ?_
 have g0 := mat_good (ND := ND) (OD := OD) (TD := TD) (UD := UD) (AD := AD) (LD := LD) s hD hf hm hfm
 have x1 := hD.f face f hf
 have ge := eta_good s hD hm (List.getElem?_eq_getElem hbin) ha hb (hw _ (List.getElem_mem hbin)) (by omega) (by omega)
 have qe := eta_n (s := s) (m := m) (bin := bin) ha hb hw (by omega)
 have g1 := ofm1_good
 have g2 := of11_good
 have g3 := of01_good
 have gd := rdiv_good (Ψ .cr 1) (Ψ .cr ((etaM s.waves m bin).getD 0)) (Rn_cr.2 Qn_one') (Rn_cr.2 qe) (by omega) (by omega) (by omega) (by omega)
 rw [rv_cr, rv_cr] at gd
 unfold bendM
 generalize (etaM s.waves m bin).getD 0 = e at *
 generalize (etaM s.waves m bin).isSome = eo at *
 generalize decide (e ≠ 0) = ez at *
 clear qe hD
 obtain ⟨ft, fm⟩ := f
 simp only at hfm
 subst hfm
 by_cases h1 : m.kind = 1
 ·rw [if_pos h1]
  have q1 : Ω .eq m.kind 1 = true := eq_true'.2 h1
  simp only [Option.getD_some, Option.isSome_some]
  generalize Ψ .cr (-1) = M1 at *
  refine rq ?_
  exact ⟨[], rfl, rfl, rfl⟩
 rw [if_neg h1]
 have q1 : Ω .eq m.kind 1 = false := eq_false'.2 h1
 by_cases h2 : m.kind = 2
 ·rw [if_pos h2]
  have q2 : Ω .eq m.kind 2 = true := eq_true'.2 h2
  simp only [Option.getD_some, Option.isSome_some]
  cases front with
  | true =>
   simp only [if_true]
   generalize Ψ .cr e = E at *
   refine rq ?_
   exact ⟨[], rfl, rfl, rfl⟩
  | false =>
   simp only [Bool.false_eq_true, if_false]
   generalize Ψ .cr (1 / e) = E1 at *
   generalize Ψ .cr e = E at *
   generalize Ψ .cr 1 = N1 at *
   refine rq ?_
   exact ⟨[], rfl, rfl, rfl⟩
 ·rw [if_neg h2]
  have q2 : Ω .eq m.kind 2 = false := eq_false'.2 h2
  simp only [Option.getD_none, Option.isSome_none]
  generalize Ψ .cr 0 = N0 at *
  refine rq ?_
  exact ⟨[], rfl, rfl, rfl⟩
end Go.K.S
end
section
namespace Go.K
open Go
def Cn (k : Nat) (v : V3) : Prop := ∃ D : Nat, 0 < D ∧ D ≤ 4294967296 ^ k ∧ CV D (4294967296 ^ k) v
def Cs (k : Nat) (q : Rat) : Prop := ∃ D : Nat, 0 < D ∧ D ≤ 4294967296 ^ k ∧ CD D (4294967296 ^ k) q
theorem Cn.mono {j k : Nat} {v : V3} (h : Cn j v) (hjk : j ≤ k) : Cn k v := by
 obtain ⟨D, h1, h2, h3⟩ := h
 exact ⟨D, h1, Nat.le_trans h2 (B_mono hjk), h3.mono (B_mono hjk)⟩
theorem Cs.mono {j k : Nat} {v : Rat} (h : Cs j v) (hjk : j ≤ k) : Cs k v := by
 obtain ⟨D, h1, h2, h3⟩ := h
 exact ⟨D, h1, Nat.le_trans h2 (B_mono hjk), h3.mono (B_mono hjk)⟩
theorem Cn.of {k : Nat} {v : V3} (h : Pn k v) : Cn (3 * k) v := CV.of h
theorem Cs.of {k : Nat} {q : Rat} (h : Qn k q) : Cs k q := CD.of h
theorem B_lt (k : Nat) : 4294967296 ^ k < 4294967296 ^ (k + 1) := Nat.pow_lt_pow_right (by omega) (by omega)
theorem Cn.size {k : Nat} {v : V3} (h : Cn k v) : Pn (k + 1) v := by
 obtain ⟨D, h1, h2, h3⟩ := h
 have := B_lt k
 exact ⟨h3.x.size h1 (by omega) this (by omega), h3.y.size h1 (by omega) this (by omega), h3.z.size h1 (by omega) this (by omega)⟩
theorem Cs.size {k : Nat} {q : Rat} (h : Cs k q) : Qn (k + 1) q := by
 obtain ⟨D, h1, h2, h3⟩ := h
 have := B_lt k
 exact h3.size h1 (by omega) this (by omega)
theorem B_mul {a b j k : Nat} (ha : a ≤ 4294967296 ^ j) (hb : b ≤ 4294967296 ^ k) : a * b ≤ 4294967296 ^ (j + k) := by
 rw [Nat.pow_add]; exact Nat.mul_le_mul ha hb
theorem B_few {a c k : Nat} (ha : a ≤ 4294967296 ^ k) (hc : c ≤ 4294967296) : c * a ≤ 4294967296 ^ (k + 1) := by
 rw [Nat.pow_succ, Nat.mul_comm]; exact Nat.mul_le_mul ha hc
theorem Cn.add {j k : Nat} {u v : V3} (hu : Cn j u) (hv : Cn k v) : Cn (j + k + 1) (vadd u v) := by
 obtain ⟨D, d1, d2, d3⟩ := hu
 obtain ⟨E, e1, e2, e3⟩ := hv
 refine ⟨D * E, Nat.mul_pos d1 e1, Nat.le_trans (B_mul d2 e2) (B_mono (by omega)), ((d3.up E).add (e3.up' D)).mono ?_⟩
 have h1 := B_mul (Nat.le_refl (4294967296 ^ j)) e2
 have h2 := B_mul d2 (Nat.le_refl (4294967296 ^ k))
 have h3 := B_few (c := 2) (Nat.le_refl (4294967296 ^ (j + k))) (by omega)
 omega
theorem Cn.sub {j k : Nat} {u v : V3} (hu : Cn j u) (hv : Cn k v) : Cn (j + k + 1) (vsub u v) := by
 obtain ⟨D, d1, d2, d3⟩ := hu
 obtain ⟨E, e1, e2, e3⟩ := hv
 refine ⟨D * E, Nat.mul_pos d1 e1, Nat.le_trans (B_mul d2 e2) (B_mono (by omega)), ((d3.up E).sub (e3.up' D)).mono ?_⟩
 have h1 := B_mul (Nat.le_refl (4294967296 ^ j)) e2
 have h2 := B_mul d2 (Nat.le_refl (4294967296 ^ k))
 have h3 := B_few (c := 2) (Nat.le_refl (4294967296 ^ (j + k))) (by omega)
 omega
theorem Cn.smul {j k : Nat} {s : Rat} {v : V3} (hs : Cs j s) (hv : Cn k v) : Cn (j + k) (vmul s v) := by
 obtain ⟨D, d1, d2, d3⟩ := hs
 obtain ⟨E, e1, e2, e3⟩ := hv
 exact ⟨D * E, Nat.mul_pos d1 e1, B_mul d2 e2, (CV.smul d3 e3).mono (B_mul (Nat.le_refl _) (Nat.le_refl _))⟩
theorem Cn.dot {j k : Nat} {u v : V3} (hu : Cn j u) (hv : Cn k v) : Cs (j + k + 1) (vdot u v) := by
 obtain ⟨D, d1, d2, d3⟩ := hu
 obtain ⟨E, e1, e2, e3⟩ := hv
 exact ⟨D * E, Nat.mul_pos d1 e1, Nat.le_trans (B_mul d2 e2) (B_mono (by omega)), (d3.dot e3).mono (B_few (B_mul (Nat.le_refl _) (Nat.le_refl _)) (by omega))⟩
theorem Cn.cross {j k : Nat} {u v : V3} (hu : Cn j u) (hv : Cn k v) : Cn (j + k + 1) (vcross u v) := by
 obtain ⟨D, d1, d2, d3⟩ := hu
 obtain ⟨E, e1, e2, e3⟩ := hv
 exact ⟨D * E, Nat.mul_pos d1 e1, Nat.le_trans (B_mul d2 e2) (B_mono (by omega)), (d3.cross e3).mono (B_few (B_mul (Nat.le_refl _) (Nat.le_refl _)) (by omega))⟩
theorem Cs.mul {j k : Nat} {p q : Rat} (hp : Cs j p) (hq : Cs k q) : Cs (j + k) (p * q) := by
 obtain ⟨D, d1, d2, d3⟩ := hp
 obtain ⟨E, e1, e2, e3⟩ := hq
 exact ⟨D * E, Nat.mul_pos d1 e1, B_mul d2 e2, (d3.mul e3).mono (B_mul (Nat.le_refl _) (Nat.le_refl _))⟩
theorem Cs.inv {k : Nat} {q : Rat} (h : Cs k q) (hq : q ≠ 0) : Cs k (1 / q) := by
 obtain ⟨D, d1, d2, d3⟩ := h
 obtain ⟨E, e1, e2, e3⟩ := d3.inv hq d1
 exact ⟨E, e1, e2, e3.mono d2⟩
theorem Cn.meet {p e w : Nat} {o d a b c : V3} (ho : Cn p o) (hd : Cn e d) (ha : Cn w a) (hb : Cn w b) (hc : Cn w c) (h0 : vdot b (vcross d c) ≠ 0) :
  Cn (p + 2 * e + 5 * w + 2) (vadd o (vmul (1 / vdot b (vcross d c) * vdot c (vcross (vsub o a) b)) d)) := by
 obtain ⟨Do, o1, o2, o3⟩ := ho
 obtain ⟨Dd, d1, d2, d3⟩ := hd
 obtain ⟨Da, a1, a2, a3⟩ := ha
 obtain ⟨Db, b1, b2, b3⟩ := hb
 obtain ⟨Dc, c1, c2, c3⟩ := hc
 have hdet := b3.dot (d3.cross c3)
 obtain ⟨E, E1, E2, E3⟩ := hdet.inv h0 (Nat.mul_pos b1 (Nat.mul_pos d1 c1))
 have hE : E ≤ 4294967296 ^ (e + 2 * w + 1) := by
  refine Nat.le_trans E2 ?_
  have h1 := B_mul (Nat.le_refl (4294967296 ^ w)) (B_mul (Nat.le_refl (4294967296 ^ e)) (Nat.le_refl (4294967296 ^ w)))
  have h2 := B_few (c := 6) h1 (by omega)
  rw [show w + (e + w) + 1 = e + 2 * w + 1 by omega] at h2
  refine Nat.le_trans (Nat.le_of_eq ?_) h2
  rw [← Nat.mul_assoc (4294967296 ^ w) 2, Nat.mul_comm (4294967296 ^ w) 2, Nat.mul_assoc 2, ← Nat.mul_assoc 3 2]
 have hnum := c3.dot (((o3.up Da).sub (a3.up' Do)).cross b3)
 have hN : 3 * (4294967296 ^ w * (2 * ((4294967296 ^ p * Da + Do * 4294967296 ^ w) * 4294967296 ^ w))) ≤ 4294967296 ^ (p + 3 * w + 1) := by
  have h1 : 4294967296 ^ p * Da + Do * 4294967296 ^ w ≤ 2 * 4294967296 ^ (p + w) := by
   have h1 := B_mul (Nat.le_refl (4294967296 ^ p)) a2
   have h2 := B_mul o2 (Nat.le_refl (4294967296 ^ w))
   omega
  have h2 : (4294967296 ^ p * Da + Do * 4294967296 ^ w) * 4294967296 ^ w ≤ 2 * 4294967296 ^ (p + w) * 4294967296 ^ w := Nat.mul_le_mul_right _ h1
  have h3 : 4294967296 ^ w * (2 * ((4294967296 ^ p * Da + Do * 4294967296 ^ w) * 4294967296 ^ w)) ≤ 4294967296 ^ w * (2 * (2 * 4294967296 ^ (p + w) * 4294967296 ^ w)) := Nat.mul_le_mul_left _ (Nat.mul_le_mul_left _ h2)
  have h4 : 4294967296 ^ w * (2 * (2 * 4294967296 ^ (p + w) * 4294967296 ^ w)) = 4 * 4294967296 ^ (p + 3 * w) := by
   have : 4294967296 ^ (p + 3 * w) = 4294967296 ^ w * (4294967296 ^ (p + w) * 4294967296 ^ w) := by rw [← Nat.pow_add, ← Nat.pow_add]; congr 1; omega
   rw [this]
   generalize 4294967296 ^ w = A
   generalize 4294967296 ^ (p + w) = C
   grind
  have h5 := B_few (c := 12) (Nat.le_refl (4294967296 ^ (p + 3 * w))) (by omega)
  omega
 have hs := E3.mul hnum
 have hsd := CV.smul hs d3
 have eD : E * (Dc * (Do * Da * Db)) * Dd = Do * (E * Dc * Da * Db * Dd) := by grind
 rw [eD] at hsd
 have ho' := o3.up (E * Dc * Da * Db * Dd)
 have hF : E * Dc * Da * Db * Dd ≤ 4294967296 ^ (2 * e + 5 * w + 1) := by
  have := B_mul (B_mul (B_mul (B_mul hE c2) a2) b2) d2
  exact Nat.le_trans this (B_mono (by omega))
 have hn2 : Db * (Dd * Dc) * (3 * (4294967296 ^ w * (2 * ((4294967296 ^ p * Da + Do * 4294967296 ^ w) * 4294967296 ^ w)))) * 4294967296 ^ e ≤ 4294967296 ^ (p + 2 * e + 5 * w + 1) := by
  have := B_mul (B_mul (B_mul b2 (B_mul d2 c2)) hN) (Nat.le_refl (4294967296 ^ e))
  exact Nat.le_trans this (B_mono (by omega))
 have hn1 : 4294967296 ^ p * (E * Dc * Da * Db * Dd) ≤ 4294967296 ^ (p + 2 * e + 5 * w + 1) := by
  have := B_mul (Nat.le_refl (4294967296 ^ p)) hF
  exact Nat.le_trans this (B_mono (by omega))
 refine ⟨Do * (E * Dc * Da * Db * Dd), Nat.mul_pos o1 (Nat.mul_pos (Nat.mul_pos (Nat.mul_pos (Nat.mul_pos E1 c1) a1) b1) d1), ?_, (ho'.add hsd).mono ?_⟩
 ·exact Nat.le_trans (B_mul o2 hF) (B_mono (by omega))
 ·have h9 : 2 * 4294967296 ^ (p + 2 * e + 5 * w + 1) ≤ 4294967296 ^ (p + 2 * e + 5 * w + 2) := B_few (Nat.le_refl _) (by omega)
  refine Nat.le_trans (Nat.add_le_add hn1 hn2) (Nat.le_trans (Nat.le_of_eq ?_) h9)
  exact (Nat.two_mul _).symm
end Go.K
end
section
namespace Go.K
open Go
structure Lk where
 p : V3
 dir : V3
 hops : List Nat
 map : M4
 gain : Rat
structure Fcs where
 near : V3 → V3 → Option (Nat × Rat)
 bend : Nat → V3 → Option Rat
 unit : Nat → V3
 val : Nat → Rat
def hopS (F : Fcs) (l : Lk) (f : Nat) (s k : Rat) : Lk :=
 ⟨vadd l.p (vmul s l.dir), turnS (stretchS (vadd l.p (vmul s l.dir)) (F.unit f) k) l.dir, l.hops ++ [f], thenS (stretchS (vadd l.p (vmul s l.dir)) (F.unit f) (1 / k)) l.map, l.gain * F.val f⟩
def followS (F : Fcs) : Nat → Lk → Option (Nat × Lk)
 | n, l => match F.near l.p l.dir with
  | none => none
  | some (f, s) => match F.bend f l.dir with
   | none => some (f, { l with p := vadd l.p (vmul s l.dir) })
   | some k => match n with
    | 0 => none
    | n + 1 => followS F n (hopS F l f s k)
def lk0 (o d : V3) : Lk := ⟨o, d, [], idM, 1⟩
theorem turn_back {p q n d : V3} {k : Rat} (hn : vdot n n = 1) (hk : k ≠ 0) : turnS (stretchS p n (1 / k)) (turnS (stretchS q n k) d) = d := by
 obtain ⟨n1, n2, n3⟩ := n
 obtain ⟨d1, d2, d3⟩ := d
 unfold turnS stretchS vdot vadd vmul at *
 simp only at *
 have hk2 : 1 / k * k = 1 := by grind
 generalize 1 / k = j at *
 refine V3.mk_eq ?_ ?_ ?_ <;> grind
theorem apply_fix {p n : V3} {k : Rat} : applyS (stretchS p n k) p = p := by
 rw [apply_stretch]
 obtain ⟨n1, n2, n3⟩ := n
 obtain ⟨d1, d2, d3⟩ := p
 unfold stretchedS vdot vadd vmul vsub
 simp only
 refine V3.mk_eq ?_ ?_ ?_ <;> grind
theorem det_then (a b : M4) : detS (thenS a b) = detS a * detS b := by
 obtain ⟨⟨a1, a2, a3⟩, ⟨a4, a5, a6⟩, ⟨a7, a8, a9⟩, ⟨a10, a11, a12⟩⟩ := a
 obtain ⟨⟨b1, b2, b3⟩, ⟨b4, b5, b6⟩, ⟨b7, b8, b9⟩, ⟨b10, b11, b12⟩⟩ := b
 unfold detS thenS rowS vdot vcross
 simp only
 grind
theorem det_stretch {p n : V3} {k : Rat} (hn : vdot n n = 1) : detS (stretchS p n k) = k := by
 obtain ⟨n1, n2, n3⟩ := n
 unfold detS stretchS vdot vadd vmul vcross at *
 simp only at *
 grind
theorem turn_vmul (m : M4) (s : Rat) (d : V3) : turnS m (vmul s d) = vmul s (turnS m d) := by
 unfold turnS vdot vmul
 simp only
 refine V3.mk_eq ?_ ?_ ?_ <;> grind
theorem apply_move (m : M4) (p d : V3) (s : Rat) : applyS m (vadd p (vmul s d)) = vadd (applyS m p) (vmul s (turnS m d)) := by
 unfold applyS turnS vdot vmul vadd
 simp only
 refine V3.mk_eq ?_ ?_ ?_ <;> grind
theorem det_id : detS idM = 1 := by decide +kernel
theorem turn_id (d : V3) : turnS idM d = d := by
 obtain ⟨d1, d2, d3⟩ := d
 unfold turnS idM vdot
 simp only
 refine V3.mk_eq ?_ ?_ ?_ <;> grind
theorem apply_id (d : V3) : applyS idM d = d := by
 obtain ⟨d1, d2, d3⟩ := d
 unfold applyS turnS idM vdot vadd
 simp only
 refine V3.mk_eq ?_ ?_ ?_ <;> grind
structure Fcs.Ok (F : Fcs) : Prop where
 pos : ∀ o d f s, F.near o d = some (f, s) → 0 < s
 unit : ∀ o d f s k, F.near o d = some (f, s) → F.bend f d = some k → vdot (F.unit f) (F.unit f) = 1 ∧ k ≠ 0
theorem follow_straight {F : Fcs} (ok : F.Ok) (o d : V3) : ∀ (n : Nat) (l : Lk) (f : Nat) (l' : Lk), followS F n l = some (f, l') → (∃ t : Rat, 0 ≤ t ∧ applyS l.map l.p = vadd o (vmul t d)) → turnS l.map l.dir = d → detS l.map ≠ 0 →
  (∃ t : Rat, 0 < t ∧ applyS l'.map l'.p = vadd o (vmul t d)) ∧ turnS l'.map l'.dir = d ∧ detS l'.map ≠ 0 ∧ l'.hops.length ≤ l.hops.length + n
 | n, l, f, l', h, ⟨t, ht, hp⟩, hd, hdet => by
  rw [followS] at h
  split at h
  ·cases h
  ·rename_i g s hg
   have hs := ok.pos _ _ _ _ hg
   have hmv : applyS l.map (vadd l.p (vmul s l.dir)) = vadd o (vmul (t + s) d) := by
    rw [apply_move, hp, hd]
    unfold vadd vmul
    simp only
    refine V3.mk_eq ?_ ?_ ?_ <;> grind
   split at h
   ·cases h
    exact ⟨⟨t + s, by grind, hmv⟩, hd, hdet, by simp only; omega⟩
   ·rename_i k hk
    obtain ⟨hn, hk0⟩ := ok.unit _ _ _ _ _ hg hk
    have hk1 : 1 / k ≠ 0 := fun e => by grind
    split at h
    ·cases h
    ·rename_i m
     have := follow_straight ok o d m (hopS F l g s k) f l' h ⟨t + s, by grind, by
      show applyS (thenS (stretchS (vadd l.p (vmul s l.dir)) (F.unit g) (1 / k)) l.map) (vadd l.p (vmul s l.dir)) = _
      rw [apply_then, apply_fix, hmv]⟩ (by
      show turnS (thenS (stretchS (vadd l.p (vmul s l.dir)) (F.unit g) (1 / k)) l.map) (turnS (stretchS (vadd l.p (vmul s l.dir)) (F.unit g) k) l.dir) = _
      rw [turn_then, turn_back hn hk0, hd]) (by
      show detS (thenS (stretchS (vadd l.p (vmul s l.dir)) (F.unit g) (1 / k)) l.map) ≠ 0
      rw [det_then, det_stretch hn]
      intro e
      rcases Rat.mul_eq_zero.1 e with h | h
      ·exact hk1 h
      ·exact hdet h)
     refine ⟨this.1, this.2.1, this.2.2.1, ?_⟩
     have h4 := this.2.2.2
     have : (hopS F l g s k).hops.length = l.hops.length + 1 := by simp [hopS]
     omega
end Go.K
namespace Go.K
def scaleL (c : Rat) (l : Lk) : Lk := { l with dir := vmul c l.dir }
theorem vmul_vmul (a b : Rat) (v : V3) : vmul a (vmul b v) = vmul (a * b) v := by
 unfold vmul; simp only; refine V3.mk_eq ?_ ?_ ?_ <;> grind
theorem follow_scale {F : Fcs} {c : Rat} (hc : c ≠ 0) (hn : ∀ o d, F.near o (vmul c d) = (F.near o d).map fun x => (x.1, x.2 / c)) (hb : ∀ f d, F.bend f (vmul c d) = F.bend f d) :
  ∀ (n : Nat) (l : Lk), followS F n (scaleL c l) = (followS F n l).map fun x => (x.1, scaleL c x.2)
 | n, l => by
  have hp : ∀ s : Rat, vmul (s / c) (vmul c l.dir) = vmul s l.dir := fun s => by
   rw [vmul_vmul]; congr 1; grind
  rw [followS, followS]
  have h1 : F.near (scaleL c l).p (scaleL c l).dir = (F.near l.p l.dir).map fun x => (x.1, x.2 / c) := hn l.p l.dir
  rw [h1]
  cases hg : F.near l.p l.dir with
  | none => rfl
  | some x =>
   obtain ⟨f, s⟩ := x
   simp only [Option.map_some]
   have h2 : F.bend f (scaleL c l).dir = F.bend f l.dir := hb f l.dir
   rw [h2]
   cases hk : F.bend f l.dir with
   | none =>
    simp only [Option.map_some, scaleL, hp]
   | some k =>
    simp only
    cases n with
    | zero => rfl
    | succ m =>
     simp only
     have h3 : hopS F (scaleL c l) f (s / c) k = scaleL c (hopS F l f s k) := by
      unfold hopS scaleL
      simp only [hp, turn_vmul]
     rw [h3]
     exact follow_scale hc hn hb m _
end Go.K
end
section
namespace Go.K
open Go
theorem Cs.neg {k : Nat} {q : Rat} (h : Cs k q) : Cs k (-q) := by
 obtain ⟨D, h1, h2, h3⟩ := h
 exact ⟨D, h1, h2, h3.neg⟩
theorem Cs.sub {j k : Nat} {p q : Rat} (hp : Cs j p) (hq : Cs k q) : Cs (j + k + 1) (p - q) := by
 obtain ⟨D, d1, d2, d3⟩ := hp
 obtain ⟨E, e1, e2, e3⟩ := hq
 refine ⟨D * E, Nat.mul_pos d1 e1, Nat.le_trans (B_mul d2 e2) (B_mono (by omega)), ((d3.up E).sub (e3.up' D)).mono ?_⟩
 have h1 := B_mul (Nat.le_refl (4294967296 ^ j)) e2
 have h2 := B_mul d2 (Nat.le_refl (4294967296 ^ k))
 have h3 := B_few (c := 2) (Nat.le_refl (4294967296 ^ (j + k))) (by omega)
 omega
theorem CD.zero (D N : Nat) : CD D N 0 := ⟨0, by grind, by simp⟩
theorem CD.one (D : Nat) : CD D D 1 := ⟨(D : Int), by rw [Rat.one_mul]; rfl, by simp⟩
theorem Cs.zero {k : Nat} : Cs k 0 := ⟨1, by omega, Nat.one_le_pow _ _ (by omega), CD.zero _ _⟩
theorem Cs.one {k : Nat} : Cs k 1 := ⟨1, by omega, Nat.one_le_pow _ _ (by omega), (CD.one 1).mono (Nat.one_le_pow _ _ (by omega))⟩
theorem Cs.inv' {k : Nat} {q : Rat} (h : Cs k q) : Cs k (1 / q) := by
 by_cases hq : q = 0
 ·rw [hq, Rat.div_def, Rat.inv_zero, Rat.mul_zero]; exact Cs.zero
 ·exact h.inv hq
theorem Cn.zero {k : Nat} : Cn k v0 := ⟨1, by omega, Nat.one_le_pow _ _ (by omega), ⟨CD.zero _ _, CD.zero _ _, CD.zero _ _⟩⟩
def CM (k : Nat) (m : M4) : Prop := ∃ D : Nat, 0 < D ∧ D ≤ 4294967296 ^ k ∧ CV D (4294967296 ^ k) m.x ∧ CV D (4294967296 ^ k) m.y ∧ CV D (4294967296 ^ k) m.z
theorem CM.mono {j k : Nat} {m : M4} (h : CM j m) (hjk : j ≤ k) : CM k m := by
 obtain ⟨D, h1, h2, h3, h4, h5⟩ := h
 exact ⟨D, h1, Nat.le_trans h2 (B_mono hjk), h3.mono (B_mono hjk), h4.mono (B_mono hjk), h5.mono (B_mono hjk)⟩
theorem CM.x {k : Nat} {m : M4} (h : CM k m) : Cn k m.x := by obtain ⟨D, h1, h2, h3, h4, h5⟩ := h; exact ⟨D, h1, h2, h3⟩
theorem CM.y {k : Nat} {m : M4} (h : CM k m) : Cn k m.y := by obtain ⟨D, h1, h2, h3, h4, h5⟩ := h; exact ⟨D, h1, h2, h4⟩
theorem CM.z {k : Nat} {m : M4} (h : CM k m) : Cn k m.z := by obtain ⟨D, h1, h2, h3, h4, h5⟩ := h; exact ⟨D, h1, h2, h5⟩
theorem CM.id {k : Nat} : CM k idM := by
 have h1 : 1 ≤ 4294967296 ^ k := Nat.one_le_pow _ _ (by omega)
 exact ⟨1, by omega, h1, ⟨(CD.one 1).mono h1, CD.zero _ _, CD.zero _ _⟩, ⟨CD.zero _ _, (CD.one 1).mono h1, CD.zero _ _⟩, ⟨CD.zero _ _, CD.zero _ _, (CD.one 1).mono h1⟩⟩
theorem CM.turn {j k : Nat} {m : M4} {d : V3} (hm : CM j m) (hd : Cn k d) : Cn (j + k + 1) (turnS m d) := by
 obtain ⟨D, d1, d2, d3, d4, d5⟩ := hm
 obtain ⟨E, e1, e2, e3⟩ := hd
 have h := B_few (B_mul (Nat.le_refl (4294967296 ^ j)) (Nat.le_refl (4294967296 ^ k))) (show 3 ≤ 4294967296 by omega)
 exact ⟨D * E, Nat.mul_pos d1 e1, Nat.le_trans (B_mul d2 e2) (B_mono (by omega)), ⟨(d3.dot e3).mono h, (d4.dot e3).mono h, (d5.dot e3).mono h⟩⟩
theorem CM.thenS {j k : Nat} {a b : M4} (ha : CM j a) (hb : CM k b) : CM (j + k + 1) (thenS a b) := by
 obtain ⟨D, d1, d2, d3, d4, d5⟩ := ha
 obtain ⟨E, e1, e2, e3, e4, e5⟩ := hb
 have h := B_few (B_mul (Nat.le_refl (4294967296 ^ k)) (Nat.le_refl (4294967296 ^ j))) (show 3 ≤ 4294967296 by omega)
 rw [Nat.add_comm k j] at h
 have row : ∀ r : V3, CV E (4294967296 ^ k) r → CV (E * D) (4294967296 ^ (j + k + 1)) (rowS a r) := fun r hr =>
  ⟨(hr.dot (v := ⟨a.x.x, a.y.x, a.z.x⟩) ⟨d3.x, d4.x, d5.x⟩).mono h, (hr.dot (v := ⟨a.x.y, a.y.y, a.z.y⟩) ⟨d3.y, d4.y, d5.y⟩).mono h, (hr.dot (v := ⟨a.x.z, a.y.z, a.z.z⟩) ⟨d3.z, d4.z, d5.z⟩).mono h⟩
 exact ⟨E * D, Nat.mul_pos e1 d1, Nat.le_trans (B_mul e2 d2) (B_mono (by omega)), row _ e3, row _ e4, row _ e5⟩
theorem CM.stretch {j w : Nat} {p n : V3} {s : Rat} (hs : Cs j (s - 1)) (hn : Cn w n) : CM (j + 2 * w + 1) (stretchS p n s) := by
 obtain ⟨D, d1, d2, d3⟩ := hs
 obtain ⟨E, e1, e2, e3⟩ := hn
 have hD := B_mul (B_mul d2 e2) e2
 have hN : 4294967296 ^ j * 4294967296 ^ w * 4294967296 ^ w = 4294967296 ^ (j + 2 * w) := by rw [← Nat.pow_add, ← Nat.pow_add]; congr 1; omega
 rw [show j + w + w = j + 2 * w by omega] at hD
 have h2 := B_few (c := 2) (Nat.le_refl (4294967296 ^ (j + 2 * w))) (by omega)
 have row : ∀ (e : V3) (x : Rat), CV (D * E * E) (D * E * E) e → CD E (4294967296 ^ w) x → CV (D * E * E) (4294967296 ^ (j + 2 * w + 1)) (vadd e (vmul ((s - 1) * x) n)) := fun e x he hx => by
  have h := he.add (CV.smul (d3.mul hx) e3)
  refine h.mono ?_
  rw [hN]
  omega
 refine ⟨D * E * E, Nat.mul_pos (Nat.mul_pos d1 e1) e1, Nat.le_trans hD (B_mono (by omega)), ?_, ?_, ?_⟩
 ·exact row ⟨1, 0, 0⟩ n.x ⟨CD.one _, CD.zero _ _, CD.zero _ _⟩ e3.x
 ·exact row ⟨0, 1, 0⟩ n.y ⟨CD.zero _ _, CD.one _, CD.zero _ _⟩ e3.y
 ·exact row ⟨0, 0, 1⟩ n.z ⟨CD.zero _ _, CD.zero _ _, CD.one _⟩ e3.z
theorem Cn.move {j w p : Nat} {o n : V3} {s : Rat} (hs : Cs j (s - 1)) (hn : Cn w n) (ho : Cn p o) : Cn (j + p + 2 * w + 1) (stretchS o n s).move :=
 (Cn.smul (hs.mul (ho.dot hn)).neg hn).mono (by omega)
def mvB (p0 G : Nat) : Nat → Nat
 | 0 => 0
 | i + 1 => mvB p0 G i + (p0 + (i + 1) * G) + 10000
structure LkN (p0 e0 G i : Nat) (l : Lk) : Prop where
 p : Cn (p0 + i * G) l.p
 d : Cn (e0 + 930 * i) l.dir
 m : CM (930 * i + 1) l.map
 v : Cn (mvB p0 G i) l.map.move
 g : Qn (2 * i + 1) l.gain
structure Fcs.N (F : Fcs) : Prop where
 unit : ∀ f, Cn 450 (F.unit f)
 val : ∀ f, Qn 2 (F.val f)
 bend : ∀ f d k, F.bend f d = some k → Cs 12 k
 len : ∀ o d f s p e, F.near o d = some (f, s) → Cn p o → Cn e d → Cs (p + e + 70) s
 meet : ∀ o d f s p e, F.near o d = some (f, s) → Cn p o → Cn e d → Cn (p + 2 * e + 67) (vadd o (vmul s d))
theorem LkN.start {p0 e0 G : Nat} {o d : V3} (ho : Cn p0 o) (hd : Cn e0 d) : LkN p0 e0 G 0 (lk0 o d) :=
 ⟨ho.mono (by omega), hd, CM.id, Cn.zero, Qn_one (by omega)⟩
theorem LkN.at {F : Fcs} (hF : F.N) {p0 e0 G i : Nat} (hG : 2 * e0 + 20000 ≤ G) {l : Lk} (h : LkN p0 e0 G i l) (hi : i < 9) {f : Nat} {s : Rat} (hn : F.near l.p l.dir = some (f, s)) : Cn (p0 + (i + 1) * G) (vadd l.p (vmul s l.dir)) :=
 (hF.meet _ _ _ _ _ _ hn h.p h.d).mono (by rw [Nat.add_mul i 1]; omega)
theorem bend_cs {F : Fcs} (hF : F.N) {f : Nat} {d : V3} {k : Rat} (hb : F.bend f d = some k) : Cs 14 (k - 1) ∧ Cs 14 (1 / k - 1) :=
 ⟨((hF.bend _ _ _ hb).sub (Cs.one (k := 1))).mono (by omega), ((hF.bend _ _ _ hb).inv'.sub (Cs.one (k := 1))).mono (by omega)⟩
theorem LkN.hop {F : Fcs} (hF : F.N) {p0 e0 G i : Nat} (hG : 2 * e0 + 20000 ≤ G) {l : Lk} (h : LkN p0 e0 G i l) (hi : i < 8) {f : Nat} {s k : Rat} (hn : F.near l.p l.dir = some (f, s)) (hb : F.bend f l.dir = some k) : LkN p0 e0 G (i + 1) (hopS F l f s k) := by
 obtain ⟨b1, b2⟩ := bend_cs hF hb
 have hp := h.at hF hG (by omega) hn
 have hu := hF.unit f
 refine ⟨hp, ?_, ?_, ?_, ?_⟩
 ·exact ((CM.stretch b1 hu).turn h.d).mono (by omega)
 ·exact ((CM.stretch b2 hu).thenS h.m).mono (by omega)
 ·show Cn _ (vadd (turnS l.map _) l.map.move)
  have h1 := Cn.move b2 hu hp
  have h2 := (h.m.turn h1).add h.v
  refine h2.mono ?_
  rw [mvB]
  omega
 ·exact (Qn_mul h.g (hF.val f) (by omega)).mono (by omega)
end Go.K
end
section
namespace Go.K
open Go
def rawS (o d : V3) (t : T3) : Option M3 :=
 if vdot (vsub t.b t.a) (vcross d (vsub t.c t.a)) = 0 then none
 else some ⟨1 / vdot (vsub t.b t.a) (vcross d (vsub t.c t.a)) * vdot (vsub t.c t.a) (vcross (vsub o t.a) (vsub t.b t.a)), 1 / vdot (vsub t.b t.a) (vcross d (vsub t.c t.a)) * vdot (vsub o t.a) (vcross d (vsub t.c t.a)),
   1 / vdot (vsub t.b t.a) (vcross d (vsub t.c t.a)) * vdot d (vcross (vsub o t.a) (vsub t.b t.a))⟩
def inS (m : M3) : Prop := 0 ≤ m.u ∧ 0 ≤ m.v ∧ m.u + m.v ≤ 1
theorem hit_raw {o d : V3} {t : T3} {m : M3} : hitS o d t = some m ↔ rawS o d t = some m ∧ 0 < m.s ∧ inS m := by
 unfold hitS rawS inS
 split
 ·constructor
  ·intro h; cases h
  ·intro h; cases h.1
 ·generalize 1 / vdot (vsub t.b t.a) (vcross d (vsub t.c t.a)) * vdot (vsub t.c t.a) (vcross (vsub o t.a) (vsub t.b t.a)) = s
  generalize 1 / vdot (vsub t.b t.a) (vcross d (vsub t.c t.a)) * vdot (vsub o t.a) (vcross d (vsub t.c t.a)) = u
  generalize 1 / vdot (vsub t.b t.a) (vcross d (vsub t.c t.a)) * vdot d (vcross (vsub o t.a) (vsub t.b t.a)) = v
  split
  ·constructor
   ·intro h; cases h
   ·rintro ⟨h, h1, h2, h3, h4⟩
    cases h
    simp only at h2
    grind
  ·split
   ·constructor
    ·intro h; cases h
    ·rintro ⟨h, h1, h2, h3, h4⟩
     cases h
     simp only at *
     grind
   ·constructor
    ·intro h
     cases h
     refine ⟨rfl, ?_, ?_, ?_, ?_⟩ <;> simp only <;> grind
    ·intro h; exact h.1
theorem raw_rev (o d : V3) (t : T3) (s : Rat) : rawS (vadd o (vmul s d)) (vmul (-1) d) t = (rawS o d t).map fun m => ⟨s - m.s, m.u, m.v⟩ := by
 unfold rawS
 have hf : vsub (vadd o (vmul s d)) t.a = vadd (vsub o t.a) (vmul s d) := by
  unfold vsub vadd vmul; simp only; refine V3.mk_eq ?_ ?_ ?_ <;> grind
 rw [hf]
 generalize vsub t.b t.a = b
 generalize vsub t.c t.a = c
 generalize vsub o t.a = f
 have h1 : vdot b (vcross (vmul (-1) d) c) = - vdot b (vcross d c) := by unfold vdot vcross vmul; simp only; grind
 have h2 : vdot c (vcross (vadd f (vmul s d)) b) = vdot c (vcross f b) - s * vdot b (vcross d c) := by unfold vdot vcross vmul vadd; simp only; grind
 have h3 : vdot (vadd f (vmul s d)) (vcross (vmul (-1) d) c) = - vdot f (vcross d c) := by unfold vdot vcross vmul vadd; simp only; grind
 have h4 : vdot (vmul (-1) d) (vcross (vadd f (vmul s d)) b) = - vdot d (vcross f b) := by unfold vdot vcross vmul vadd; simp only; grind
 rw [h1, h2, h3, h4]
 generalize vdot b (vcross d c) = det
 generalize vdot c (vcross f b) = q
 generalize vdot f (vcross d c) = p
 generalize vdot d (vcross f b) = r
 by_cases h0 : det = 0
 ·rw [if_pos (by grind), if_pos h0]; rfl
 ·rw [if_neg (by grind), if_neg h0]
  have k1 : 1 / -det = -(1 / det) := by grind
  have k2 : 1 / det * det = 1 := by grind
  rw [k1]
  simp only [Option.map_some, Option.some.injEq, M3.mk.injEq]
  generalize 1 / det = j at *
  refine ⟨?_, ?_, ?_⟩ <;> grind
end Go.K
end
section
namespace Go.K
open Go
structure Fcs.Near (F : Fcs) (tri : Nat → T3) (N : Nat) : Prop where
 some : ∀ o d f s, F.near o d = some (f, s) → f < N ∧ ∃ m, hitS o d (tri f) = some m ∧ m.s = s ∧ ∀ j m', j < N → hitS o d (tri j) = some m' → s < m'.s ∨ (s = m'.s ∧ f ≤ j)
 none : ∀ o d, F.near o d = none → ∀ j, j < N → hitS o d (tri j) = none
theorem near_is {F : Fcs} {tri : Nat → T3} {N : Nat} (h : F.Near tri N) {o d : V3} {f : Nat} {m : M3} (hf : f < N) (hm : hitS o d (tri f) = some m) (hu : ∀ j m', j < N → hitS o d (tri j) = some m' → m.s < m'.s ∨ j = f) : F.near o d = some (f, m.s) := by
 cases hn : F.near o d with
 | none => rw [h.none o d hn f hf] at hm; cases hm
 | some x =>
  obtain ⟨g, s⟩ := x
  obtain ⟨hg, m2, h1, h2, h3⟩ := h.some o d g s hn
  have h4 := h3 f m hf hm
  have h5 := hu g m2 hg h1
  have hgf : g = f := by
   rcases h5 with h5 | h5
   ·exfalso; rw [h2] at h5
    rcases h4 with h4 | h4
    ·grind
    ·grind
   ·exact h5
  subst hgf
  rw [h1] at hm
  cases hm
  rw [h2]
def AloneP (tri : Nat → T3) (N : Nat) (p : V3) : Prop := ∀ f g d m m', f < N → g < N → rawS p d (tri f) = some m → m.s = 0 → inS m → rawS p d (tri g) = some m' → m'.s = 0 → inS m' → f = g
def OnF (tri : Nat → T3) (N : Nat) (p d : V3) (g : Nat) : Prop := g < N ∧ ∃ m, rawS p d (tri g) = some m ∧ m.s = 0 ∧ inS m
theorem back_near {F : Fcs} {tri : Nat → T3} {N : Nat} (h : F.Near tri N) {o d : V3} {f g : Nat} {s : Rat} (hn : F.near o d = some (f, s)) (hg : OnF tri N o d g) (ha : AloneP tri N o) : F.near (vadd o (vmul s d)) (vmul (-1) d) = some (g, s) := by
 obtain ⟨hgN, m0, h1, h2, h3⟩ := hg
 obtain ⟨hf, mf, k1, k2, k3⟩ := h.some o d f s hn
 have hs : 0 < s := by rw [← k2]; exact (hit_raw.1 k1).2.1
 have hit : hitS (vadd o (vmul s d)) (vmul (-1) d) (tri g) = some ⟨s - m0.s, m0.u, m0.v⟩ := by
  refine hit_raw.2 ⟨by rw [raw_rev, h1]; rfl, ?_, h3⟩
  show 0 < s - m0.s
  rw [h2]; grind
 have := near_is h hgN hit fun j m' hj hm' => by
  obtain ⟨r1, r2, r3⟩ := hit_raw.1 hm'
  rw [raw_rev] at r1
  cases hr : rawS o d (tri j) with
  | none => rw [hr] at r1; cases r1
  | some m =>
   rw [hr] at r1
   cases r1
   have r2' : 0 < s - m.s := r2
   have r3' : inS m := r3
   show s - m0.s < s - m.s ∨ j = g
   rw [h2]
   by_cases c : 0 < m.s
   ·exfalso
    have hh := hit_raw.2 ⟨hr, c, r3'⟩
    rcases k3 j m hj hh with q | q
    ·grind
    ·grind
   ·by_cases c2 : m.s = 0
    ·exact .inr (ha j g d m m0 hj hgN hr c2 r3' h1 h2 h3)
    ·exact .inl (by grind)
 have e : s - m0.s = s := by rw [h2]; grind
 simp only [e] at this
 exact this
theorem raw_at {o d d' : V3} {t : T3} {m : M3} (h : rawS o d t = some m) (hd : vdot (vsub t.b t.a) (vcross d' (vsub t.c t.a)) ≠ 0) : rawS (vadd o (vmul m.s d)) d' t = some ⟨0, m.u, m.v⟩ := by
 have hp : vsub (vadd o (vmul m.s d)) t.a = vadd (vmul m.u (vsub t.b t.a)) (vmul m.v (vsub t.c t.a)) := by
  unfold rawS at h
  split at h
  ·cases h
  ·rename_i h0
   cases h
   have hf : ∀ s, vsub (vadd o (vmul s d)) t.a = vadd (vsub o t.a) (vmul s d) := fun s => by
    unfold vsub vadd vmul; simp only; refine V3.mk_eq ?_ ?_ ?_ <;> grind
   rw [hf]
   simp only
   generalize vsub t.b t.a = b at *
   generalize vsub t.c t.a = c at *
   generalize vsub o t.a = f at *
   have hk : 1 / vdot b (vcross d c) * vdot b (vcross d c) = 1 := by grind
   generalize 1 / vdot b (vcross d c) = k at *
   obtain ⟨b1, b2, b3⟩ := b
   obtain ⟨c1, c2, c3⟩ := c
   obtain ⟨d1, d2, d3⟩ := d
   obtain ⟨f1, f2, f3⟩ := f
   unfold vdot vcross at *
   unfold vadd vmul
   simp only at *
   refine V3.mk_eq ?_ ?_ ?_ <;> grind
 unfold rawS
 rw [hp, if_neg hd]
 generalize vsub t.b t.a = b at *
 generalize vsub t.c t.a = c at *
 have hk : 1 / vdot b (vcross d' c) * vdot b (vcross d' c) = 1 := by grind
 generalize 1 / vdot b (vcross d' c) = k at *
 obtain ⟨b1, b2, b3⟩ := b
 obtain ⟨c1, c2, c3⟩ := c
 obtain ⟨d1, d2, d3⟩ := d'
 simp only [Option.some.injEq, M3.mk.injEq]
 generalize m.u = u at *
 generalize m.v = v at *
 unfold vdot vcross vadd vmul at *
 simp only at *
 refine ⟨?_, ?_, ?_⟩ <;> grind
end Go.K
end
section
namespace Go.K
open Go
inductive Way (F : Fcs) (l0 : Lk) (g0 : Nat) : Lk → Nat → Nat → Prop where
 | start : Way F l0 g0 l0 g0 0
 | hop {l : Lk} {g n f : Nat} {s k : Rat} : Way F l0 g0 l g n → F.near l.p l.dir = some (f, s) → F.bend f l.dir = some k → Way F l0 g0 (hopS F l f s k) f (n + 1)
structure Fcs.Geo (F : Fcs) (tri : Nat → T3) (N : Nat) : Prop where
 normal : ∀ f, f < N → ∃ v : Rat, vcross (vsub (tri f).b (tri f).a) (vsub (tri f).c (tri f).a) = vmul v (F.unit f)
 rev : ∀ f d k p, F.bend f d = some k → vdot d (F.unit f) ≠ 0 → F.bend f (vmul (-1) (turnS (stretchS p (F.unit f) k) d)) = some (1 / k)
theorem turn_dot {p n d : V3} {k : Rat} (hn : vdot n n = 1) : vdot (turnS (stretchS p n k) d) n = k * vdot d n := by
 obtain ⟨n1, n2, n3⟩ := n
 obtain ⟨d1, d2, d3⟩ := d
 unfold turnS stretchS vdot vadd vmul at *
 simp only at *
 grind
theorem det_dot (b c d : V3) : vdot b (vcross d c) = - vdot d (vcross b c) := by unfold vdot vcross; grind
theorem dot_vmul (d n : V3) (v : Rat) : vdot d (vmul v n) = v * vdot d n := by unfold vdot vmul; grind
theorem stretch_inv {p n : V3} {k : Rat} (hn : vdot n n = 1) (hk : k ≠ 0) : thenS (stretchS p n (1 / k)) (stretchS p n k) = idM := by
 have hk2 : 1 / k * k = 1 := by grind
 generalize 1 / k = j at *
 obtain ⟨n1, n2, n3⟩ := n
 obtain ⟨p1, p2, p3⟩ := p
 unfold thenS applyS turnS rowS stretchS idM vdot vadd vmul at *
 simp only at *
 rw [M4.ext_iff']
 refine ⟨V3.mk_eq ?_ ?_ ?_, V3.mk_eq ?_ ?_ ?_, V3.mk_eq ?_ ?_ ?_, V3.mk_eq ?_ ?_ ?_⟩ <;> grind
theorem move_back (p d : V3) (s : Rat) : vadd (vadd p (vmul s d)) (vmul s (vmul (-1) d)) = p := by
 obtain ⟨p1, p2, p3⟩ := p
 unfold vadd vmul
 simp only
 refine V3.mk_eq ?_ ?_ ?_ <;> grind
theorem met_dot {F : Fcs} {tri : Nat → T3} {N : Nat} (geo : F.Geo tri N) {f : Nat} (hf : f < N) {o d : V3} {m : M3} (h : rawS o d (tri f) = some m) : vdot d (F.unit f) ≠ 0 := fun e => by
 obtain ⟨v, hv⟩ := geo.normal f hf
 unfold rawS at h
 split at h
 ·cases h
 ·rename_i h0
  apply h0
  rw [det_dot, hv, dot_vmul, e]
  grind
theorem on_hop {F : Fcs} {tri : Nat → T3} {N : Nat} (ok : F.Ok) (near : F.Near tri N) (geo : F.Geo tri N) {l : Lk} {f : Nat} {s k : Rat} (hn : F.near l.p l.dir = some (f, s)) (hb : F.bend f l.dir = some k) :
  OnF tri N (hopS F l f s k).p (hopS F l f s k).dir f := by
 obtain ⟨hf, m, h1, h2, _⟩ := near.some _ _ _ _ hn
 obtain ⟨r1, r2, r3⟩ := hit_raw.1 h1
 obtain ⟨hu, hk⟩ := ok.unit _ _ _ _ _ hn hb
 have hd := met_dot geo hf r1
 obtain ⟨v, hv⟩ := geo.normal f hf
 have h0 : vdot (vsub (tri f).b (tri f).a) (vcross l.dir (vsub (tri f).c (tri f).a)) ≠ 0 := fun e => by
  unfold rawS at r1
  rw [if_pos e] at r1
  cases r1
 refine ⟨hf, ⟨0, m.u, m.v⟩, ?_, rfl, r3⟩
 have := raw_at (d' := (hopS F l f s k).dir) r1 (by
  rw [det_dot, hv, dot_vmul] at h0 ⊢
  have e : vdot (hopS F l f s k).dir (F.unit f) = k * vdot l.dir (F.unit f) := turn_dot hu
  rw [e]
  intro e2
  apply h0
  have : k * (v * vdot l.dir (F.unit f)) = 0 := by grind
  rcases Rat.mul_eq_zero.1 this with q | q
  ·exact absurd q hk
  ·grind)
 rw [h2] at this
 exact this
theorem way_back {F : Fcs} {tri : Nat → T3} {N : Nat} (ok : F.Ok) (near : F.Near tri N) (geo : F.Geo tri N) {l0 : Lk} {g0 : Nat} (h0 : OnF tri N l0.p l0.dir g0) (he : ∀ d, F.bend g0 d = none)
  {l : Lk} {g n : Nat} (w : Way F l0 g0 l g n) : (∀ l' g' n', Way F l0 g0 l' g' n' → n' ≤ n → AloneP tri N l'.p) →
  ∀ (b : Lk) (f : Nat) (s : Rat) (fuel : Nat), F.near l.p l.dir = some (f, s) → b.p = vadd l.p (vmul s l.dir) → b.dir = vmul (-1) l.dir → n ≤ fuel →
   ∃ (b' : Lk) (L : List Nat) (T U : M4) (G : Rat), followS F fuel b = some (g0, b') ∧ b'.p = l0.p ∧ b'.dir = vmul (-1) l0.dir ∧ l.hops = l0.hops ++ L ∧ b'.hops = b.hops ++ L.reverse ∧
    l.map = thenS T l0.map ∧ b'.map = thenS U b.map ∧ thenS T U = idM ∧ l.gain = l0.gain * G ∧ b'.gain = b.gain * G := by
 induction w with
 | start =>
  intro ha b f s fuel hn hp hd _
  have hback := back_near near hn h0 (ha _ _ _ .start (Nat.le_refl _))
  rw [← hp, ← hd] at hback
  refine ⟨{ b with p := vadd b.p (vmul s b.dir) }, [], idM, idM, 1, ?_, ?_, hd, by simp, by simp, (id_then _).symm, (id_then _).symm, id_then _, by grind, by simp only; grind⟩
  ·rw [followS, hback]
   simp only
   rw [he]
  ·show vadd b.p (vmul s b.dir) = l0.p
   rw [hp, hd, move_back]
 | @hop l g n f1 s1 k1 w hn1 hb1 ih =>
  intro ha b f s fuel hn hp hd hfu
  obtain ⟨hu, hk⟩ := ok.unit _ _ _ _ _ hn1 hb1
  obtain ⟨hf1, m, h1, h2, _⟩ := near.some _ _ _ _ hn1
  have hdot := met_dot geo hf1 (hit_raw.1 h1).1
  have hon := on_hop ok near geo hn1 hb1
  have hback := back_near near hn hon (ha _ _ _ (.hop w hn1 hb1) (Nat.le_refl _))
  rw [← hp, ← hd] at hback
  have hbend : F.bend f1 b.dir = some (1 / k1) := by
   rw [hd]
   exact geo.rev f1 l.dir k1 _ hb1 hdot
  obtain ⟨fu, rfl⟩ : ∃ fu, fuel = fu + 1 := ⟨fuel - 1, by omega⟩
  have hpt : vadd b.p (vmul s b.dir) = vadd l.p (vmul s1 l.dir) := by
   rw [hp, hd, move_back]; rfl
  have hkk : 1 / (1 / k1) = k1 := by grind
  have hk1 : 1 / k1 ≠ 0 := fun e => by grind
  have hdir : (hopS F b f1 s (1 / k1)).dir = vmul (-1) l.dir := by
   show turnS (stretchS (vadd b.p (vmul s b.dir)) (F.unit f1) (1 / k1)) b.dir = _
   rw [hd, turn_vmul]
   congr 1
   exact turn_back hu hk
  obtain ⟨b', L, T, U, G, r1, r2, r3, r4, r5, r6, r7, r8, r9, r10⟩ := ih (fun l' g' n' w' hle => ha l' g' n' w' (by omega)) (hopS F b f1 s (1 / k1)) f1 s1 fu hn1 hpt hdir (by omega)
  refine ⟨b', L ++ [f1], thenS (stretchS (vadd l.p (vmul s1 l.dir)) (F.unit f1) (1 / k1)) T, thenS U (stretchS (vadd l.p (vmul s1 l.dir)) (F.unit f1) k1), G * F.val f1, ?_, r2, r3, ?_, ?_, ?_, ?_, ?_, ?_, ?_⟩
  ·rw [followS, hback]
   simp only
   rw [hbend]
   exact r1
  ·show l.hops ++ [f1] = _
   rw [r4, List.append_assoc]
  ·rw [r5]
   show (b.hops ++ [f1]) ++ L.reverse = _
   simp
  ·show thenS _ l.map = _
   rw [r6, then_assoc]
  ·rw [r7]
   show thenS U (thenS (stretchS (vadd b.p (vmul s b.dir)) (F.unit f1) (1 / (1 / k1))) b.map) = _
   rw [hpt, hkk, then_assoc]
  ·rw [then_assoc, ← then_assoc T U, r8, id_then, stretch_inv hu hk]
  ·show l.gain * F.val f1 = _
   rw [r9]; grind
  ·rw [r10]
   show b.gain * F.val f1 * G = _
   grind
end Go.K
end
section
namespace Go.K
open Go
theorem follow_way {F : Fcs} {l0 : Lk} {g0 : Nat} : ∀ (n : Nat) (l : Lk) (g i : Nat) (f : Nat) (l' : Lk), Way F l0 g0 l g i → followS F n l = some (f, l') →
  ∃ (k : Lk) (g' j : Nat) (s : Rat), Way F l0 g0 k g' j ∧ j ≤ i + n ∧ F.near k.p k.dir = some (f, s) ∧ F.bend f k.dir = none ∧ l' = { k with p := vadd k.p (vmul s k.dir) }
 | n, l, g, i, f, l', w, h => by
  rw [followS] at h
  split at h
  ·cases h
  ·rename_i f1 s1 hn
   split at h
   ·rename_i hb
    cases h
    exact ⟨l, g, i, s1, w, by omega, hn, hb, rfl⟩
   ·rename_i k1 hb
    split at h
    ·cases h
    ·rename_i m
     obtain ⟨k, g', j, s, h1, h2, h3, h4, h5⟩ := follow_way m _ _ _ f l' (.hop w hn hb) h
     exact ⟨k, g', j, s, h1, by omega, h3, h4, h5⟩
theorem follow_back {F : Fcs} {tri : Nat → T3} {N : Nat} (ok : F.Ok) (near : F.Near tri N) (geo : F.Geo tri N) {o d : V3} {g0 : Nat} (h0 : OnF tri N o d g0) (he : ∀ d, F.bend g0 d = none) {n f : Nat} {l' : Lk}
  (h : followS F n (lk0 o d) = some (f, l')) (ha : ∀ l g i, Way F (lk0 o d) g0 l g i → i ≤ n → AloneP tri N l.p) :
  ∃ b, followS F n (lk0 l'.p (vmul (-1) l'.dir)) = some (g0, b) ∧ b.p = o ∧ b.dir = vmul (-1) d ∧ b.hops = l'.hops.reverse ∧ b.map = inverseS l'.map ∧ b.gain = l'.gain := by
 obtain ⟨k, g', j, s, w, hj, hn, hb, rfl⟩ := follow_way (g0 := g0) n (lk0 o d) g0 0 f l' .start h
 obtain ⟨_, _, hdet, _⟩ := follow_straight ok o d n (lk0 o d) f _ h ⟨0, by grind, by
  show applyS idM o = _
  rw [apply_id]
  unfold vadd vmul
  cases o
  simp only
  refine V3.mk_eq ?_ ?_ ?_ <;> grind⟩ (turn_id d) (by show detS idM ≠ 0; rw [det_id]; decide)
 obtain ⟨b', L, T, U, G, r1, r2, r3, r4, r5, r6, r7, r8, r9, r10⟩ := way_back ok near geo (l0 := lk0 o d) h0 he w (fun l g i w' hi => ha l g i w' (by omega)) (lk0 (vadd k.p (vmul s k.dir)) (vmul (-1) k.dir)) f s n hn rfl rfl (by omega)
 refine ⟨b', r1, r2, r3, ?_, ?_, ?_⟩
 ·rw [r5]
  show [] ++ L.reverse = k.hops.reverse
  rw [r4]; rfl
 ·have e1 : k.map = T := by rw [r6]; exact then_id T
  have e2 : b'.map = U := by rw [r7]; exact then_id U
  show b'.map = inverseS k.map
  rw [e1, e2]
  refine inv_unique ?_ r8
  have hdet' : detS k.map ≠ 0 := hdet
  rw [e1] at hdet'
  exact hdet'
 ·show b'.gain = k.gain
  rw [r9, r10]
  show (1 : Rat) * G = 1 * G
  rfl
end Go.K
end
section
namespace Go.K
open Go
def matF (s : ScL) (f : Nat) : Option MatL := match s.faces[f]? with
 | some fc => s.mats[fc.mat.toNat]?
 | none => none
def unitF (s : ScL) (f : Nat) : V3 := match s.faces[f]? with
 | some fc => (unitR (normS (tv fc.tri))).1
 | none => v0
def trisA (s : ScL) : List TL := trisL s s.faces.length
def nearF (s : ScL) (o d : V3) : Option (Nat × Rat) :=
 if 0 ≤ (firstS (Ψ .cV o) (Ψ .cV d) (trisA s)).best then some ((firstS (Ψ .cV o) (Ψ .cV d) (trisA s)).best.toNat, (firstS (Ψ .cV o) (Ψ .cV d) (trisA s)).m.s) else none
def fcsOf (s : ScL) (bin : Nat) : Fcs where
 near := nearF s
 bend f d := match matF s f with
  | some m => bendM s.waves m bin (decide (vdot d (unitF s f) < 0))
  | none => none
 unit := unitF s
 val f := match matF s f with
  | some m => match m.vals[bin]? with
   | some r => rv r
   | none => 0
  | none => 0
theorem trisA_get (s : ScL) (i : Nat) : (trisA s)[i]? = (s.faces[i]?).map fun f => f.tri := by
 unfold trisA trisL
 rw [List.take_length, List.getElem?_map]
theorem trisA_len (s : ScL) : (trisA s).length = s.faces.length := by
 unfold trisA trisL
 rw [List.take_length, List.length_map]
def triF (s : ScL) (f : Nat) : T3 := match s.faces[f]? with
 | some fc => tv fc.tri
 | none => ⟨v0, v0, v0⟩
theorem hitAt_tri {s : ScL} {o d : V3} {i : Nat} (h : i < s.faces.length) : hitAt (Ψ .cV o) (Ψ .cV d) (trisA s) i = hitS o d (triF s i) := by
 unfold hitAt triF
 rw [trisA_get, List.getElem?_eq_getElem h, vv_cV, vv_cV]
 rfl
theorem near_F (s : ScL) (bin : Nat) : (fcsOf s bin).Near (triF s) s.faces.length where
 some := fun o d f t h => by
  have h' : nearF s o d = some (f, t) := h
  unfold nearF at h'
  have hb := first_best (Ψ .cV o) (Ψ .cV d) (trisA s)
  rw [trisA_len] at hb
  split at h'
  ·rename_i h0
   cases h'
   rcases hb with ⟨e, _⟩ | ⟨i, h1, h2, h3, h4⟩
   ·rw [e] at h0; exact absurd h0 (by decide)
   ·have e1 : (firstS (Ψ .cV o) (Ψ .cV d) (trisA s)).best.toNat = i := by omega
    rw [e1]
    refine ⟨h2, _, by rw [← hitAt_tri h2]; exact h3, rfl, fun j m' hj hm => ?_⟩
    exact h4 j m' hj (by rw [hitAt_tri hj]; exact hm)
  ·cases h'
 none := fun o d h j hj => by
  have h' : nearF s o d = none := h
  unfold nearF at h'
  have hb := first_best (Ψ .cV o) (Ψ .cV d) (trisA s)
  rw [trisA_len] at hb
  split at h'
  ·cases h'
  ·rename_i h0
   rcases hb with ⟨e, hn⟩ | ⟨i, h1, h2, h3, h4⟩
   ·rw [← hitAt_tri hj]; exact hn j hj
   ·omega
theorem unitS_spec {v n : V3} {l : Rat} (h : unitS v = some (n, l)) : vdot n n = 1 ∧ v = vmul l n ∧ l ≠ 0 := by
 unfold unitS at h
 cases hr : rsq (vdot v v) with
 | none => rw [hr] at h; cases h
 | some l' =>
  rw [hr] at h
  simp only at h
  split at h
  ·cases h
  ·rename_i h0
   cases h
   have hl : l * l = vdot v v := by
    unfold rsq at hr
    split at hr
    ·cases hr
    ·rename_i hneg
     split at hr
     ·rename_i hs
      cases hr
      have hq : vdot v v = mkRat (vdot v v).num.natAbs (vdot v v).den := by
       have hn : 0 ≤ (vdot v v).num := by rw [Rat.num_nonneg]; exact Rat.not_lt.1 hneg
       have : (((vdot v v).num.natAbs : Nat) : Int) = (vdot v v).num := by omega
       rw [this, Rat.mkRat_self]
      rw [Rat.mkRat_mul_mkRat]
      rw [hq]
      generalize vdot v v = q at *
      rw [← hq]
      have e1 : ((sq q.num.natAbs : Nat) : Int) * ((sq q.num.natAbs : Nat) : Int) = ((q.num.natAbs : Nat) : Int) := by
       rw [← Int.natCast_mul, hs.1]
      rw [e1, hs.2]
      exact hq.symm
     ·cases hr
   refine ⟨?_, ?_, h0⟩
   ·obtain ⟨x, y, z⟩ := v
    unfold vdot vmul at *
    simp only at *
    have h1 : 1 / l * l = 1 := by grind
    generalize 1 / l = k at *
    have : k * x * (k * x) + k * y * (k * y) + k * z * (k * z) = k * k * (x * x + y * y + z * z) := by grind
    rw [this, ← hl]
    grind
   ·obtain ⟨x, y, z⟩ := v
    unfold vmul
    simp only
    refine V3.mk_eq ?_ ?_ ?_ <;> grind
theorem unitF_spec {s : ScL} (ok : ScOk s) {f : Nat} (h : f < s.faces.length) : ∃ l, l ≠ 0 ∧ vdot (unitF s f) (unitF s f) = 1 ∧ normS (triF s f) = vmul l (unitF s f) := by
 obtain ⟨fc, hfc⟩ : ∃ fc, s.faces[f]? = some fc := ⟨_, List.getElem?_eq_getElem h⟩
 have := (ok.fb fc (List.mem_of_getElem? hfc)).1
 cases hu : unitS (normS (tv fc.tri)) with
 | none => rw [hu] at this; cases this
 | some x =>
  obtain ⟨n, l⟩ := x
  obtain ⟨h1, h2, h3⟩ := unitS_spec hu
  have e : unitF s f = n := by
   unfold unitF unitR
   rw [hfc]
   simp only
   rw [hu]
   rfl
  have e2 : triF s f = tv fc.tri := by unfold triF; rw [hfc]
  exact ⟨l, h3, by rw [e]; exact h1, by rw [e, e2]; exact h2⟩
theorem matF_some {s : ScL} (ok : ScOk s) {f : Nat} (h : f < s.faces.length) : ∃ fc m, s.faces[f]? = some fc ∧ s.mats[fc.mat.toNat]? = some m ∧ fc.mat = Ω .ci fc.mat.toNat ∧ matF s f = some m := by
 obtain ⟨fc, hfc⟩ : ∃ fc, s.faces[f]? = some fc := ⟨_, List.getElem?_eq_getElem h⟩
 have h2 := (ok.fb fc (List.mem_of_getElem? hfc)).2
 obtain ⟨m, hm⟩ : ∃ m, s.mats[fc.mat.toNat]? = some m := ⟨_, List.getElem?_eq_getElem (by omega)⟩
 exact ⟨fc, m, hfc, hm, by rw [w_ci]; omega, by unfold matF; rw [hfc]; exact hm⟩
theorem eta_pos {s : ScL} (ok : ScOk s) {m : MatL} (hm : m ∈ s.mats) {bin : Nat} (hb : bin < s.waves.length) (hk : m.kind = 2) : ∃ e, etaM s.waves m bin = some e ∧ 0 < e := by
 have h := ok.mb m hm
 unfold matB at h
 simp only [Bool.and_eq_true, decide_eq_true_eq] at h
 obtain ⟨⟨⟨_, _⟩, hl⟩, hv, _⟩ := h
 have hw : s.waves[bin]? = some s.waves[bin] := List.getElem?_eq_getElem hb
 have hwp := ok.wp _ (List.getElem_mem hb)
 have he : etaM s.waves m bin = some (rv m.a + rv m.b / (rv s.waves[bin] * rv s.waves[bin])) := by
  unfold etaM
  rw [hw]
  simp only
  rw [if_pos ⟨hk, fun e => by rw [e] at hwp; exact absurd hwp (by decide)⟩]
 refine ⟨_, he, ?_⟩
 have hz : m.vals.zipIdx[bin]? = some (m.vals[bin]'(by omega), bin) := by rw [List.getElem?_zipIdx, List.getElem?_eq_getElem (by omega)]; simp
 have := all_of hv (List.mem_of_getElem? hz)
 simp only [valB, he, Bool.and_eq_true, decide_eq_true_eq] at this
 exact this.2
theorem bendM_ne {s : ScL} (ok : ScOk s) {m : MatL} (hm : m ∈ s.mats) {bin : Nat} (hb : bin < s.waves.length) {fr : Bool} {k : Rat} (h : bendM s.waves m bin fr = some k) : k ≠ 0 := by
 unfold bendM at h
 split at h
 ·cases h; decide
 ·split at h
  ·rename_i h2
   obtain ⟨e, he, hp⟩ := eta_pos ok hm hb h2
   rw [he] at h
   simp only [Option.getD_some, Option.some.injEq] at h
   cases fr with
   | true => simp only [if_true] at h; subst h; intro c; rw [c] at hp; exact absurd hp (by decide)
   | false => simp only [Bool.false_eq_true, if_false] at h; subst h; intro c; grind
  ·cases h
theorem ok_F {s : ScL} (ok : ScOk s) {bin : Nat} (hb : bin < s.waves.length) : (fcsOf s bin).Ok where
 pos := fun o d f t h => by
  obtain ⟨hf, m, h1, h2, _⟩ := (near_F s bin).some o d f t h
  rw [← h2]
  exact (hit_raw.1 h1).2.1
 unit := fun o d f t k h hk => by
  obtain ⟨hf, _⟩ := (near_F s bin).some o d f t h
  obtain ⟨l, _, h1, _⟩ := unitF_spec ok hf
  obtain ⟨fc, m, h2, h3, _, h4⟩ := matF_some ok hf
  refine ⟨h1, ?_⟩
  have hk' : (match matF s f with | some m => bendM s.waves m bin (decide (vdot d (unitF s f) < 0)) | none => none) = some k := hk
  rw [h4] at hk'
  exact bendM_ne ok (List.mem_of_getElem? h3) hb hk'
theorem triF_n {s : ScL} (ok : ScOk s) {f : Nat} (h : f < s.faces.length) : Pn 2 (triF s f).a ∧ Pn 2 (triF s f).b ∧ Pn 2 (triF s f).c := by
 have hfc : s.faces[f]? = some s.faces[f] := List.getElem?_eq_getElem h
 have e2 : triF s f = tv (s.faces[f]).tri := by unfold triF; rw [hfc]
 rw [e2]
 exact T3n (ok.n.fv _ (List.getElem_mem h)) (by omega)
theorem unitF_n {s : ScL} (ok : ScOk s) (f : Nat) : Pn 150 (unitF s f) := by
 unfold unitF
 cases h : s.faces[f]? with
 | none => exact Pn_v0 (by omega)
 | some fc => exact (unit_n (Pn_norm (T3n (ok.n.fv _ (List.mem_of_getElem? h)) (by omega)) (by omega)) (by omega)).1
theorem etaM_n {s : ScL} (ok : ScOk s) {m : MatL} (hm : m ∈ s.mats) (bin : Nat) : Qn 12 ((etaM s.waves m bin).getD 0) := by
 have hv := ok.n.mv m hm
 unfold etaM
 cases h : s.waves[bin]? with
 | none => exact Qn_zero (by omega)
 | some w =>
  have hwk := Qn_rv (ok.n.wv w (List.mem_of_getElem? h)) (by omega)
  simp only
  split
  ·exact (Qn_add (Qn_rv hv.2.1 (by omega)) (Qn_div (Qn_rv hv.2.2 (by omega)) (Qn_mul hwk hwk (by omega)) (by omega))).mono (by omega)
  ·exact Qn_zero (by omega)
theorem bendM_cs {s : ScL} (ok : ScOk s) {m : MatL} (hm : m ∈ s.mats) {bin : Nat} {fr : Bool} {k : Rat} (h : bendM s.waves m bin fr = some k) : Cs 12 k := by
 have he := Cs.of (etaM_n ok hm bin)
 unfold bendM at h
 split at h
 ·cases h; exact Cs.neg Cs.one
 ·split at h
  ·cases fr with
   | true => cases h; exact he
   | false => cases h; exact he.inv'
  ·cases h
theorem matF_mem {s : ScL} {f : Nat} {m : MatL} (h : matF s f = some m) : m ∈ s.mats := by
 unfold matF at h
 split at h
 ·exact List.mem_of_getElem? h
 ·cases h
theorem n_F {s : ScL} (ok : ScOk s) (bin : Nat) : (fcsOf s bin).N where
 unit := fun f => Cn.of (unitF_n ok f)
 val := fun f => by
  show Qn 2 (match matF s f with | some m => (match m.vals[bin]? with | some r => rv r | none => 0) | none => 0)
  cases h : matF s f with
  | none => exact Qn_zero (by omega)
  | some m =>
   simp only
   cases h2 : m.vals[bin]? with
   | none => exact Qn_zero (by omega)
   | some r => exact Qn_rv ((ok.n.mv m (matF_mem h)).1 r (List.mem_of_getElem? h2)) (by omega)
 bend := fun f d k h => by
  have h' : (match matF s f with | some m => bendM s.waves m bin (decide (vdot d (unitF s f) < 0)) | none => none) = some k := h
  cases hm : matF s f with
  | none => rw [hm] at h'; cases h'
  | some m => rw [hm] at h'; exact bendM_cs ok (matF_mem hm) h'
 len := fun o d f t p e h ho hd => by
  obtain ⟨hf, m, h1, h2, _⟩ := (near_F s bin).some o d f t h
  obtain ⟨a, b, c⟩ := triF_n ok hf
  have r := (hit_raw.1 h1).1
  unfold rawS at r
  split at r
  ·cases r
  ·cases r
   rw [← h2]
   have cb := (Cn.sub (Cn.of b) (Cn.of a)).mono (show _ ≤ 13 by omega)
   have cc := (Cn.sub (Cn.of c) (Cn.of a)).mono (show _ ≤ 13 by omega)
   exact (Cs.mul (Cs.inv' (Cn.dot cb (Cn.cross hd cc))) (Cn.dot cc (Cn.cross (Cn.sub ho (Cn.of a)) cb))).mono (by omega)
 meet := fun o d f t p e h ho hd => by
  obtain ⟨hf, m, h1, h2, _⟩ := (near_F s bin).some o d f t h
  obtain ⟨a, b, c⟩ := triF_n ok hf
  have r := (hit_raw.1 h1).1
  unfold rawS at r
  split at r
  ·cases r
  ·rename_i h0
   cases r
   rw [← h2]
   have ca := (Cn.of a).mono (show _ ≤ 13 by omega)
   have cb := (Cn.sub (Cn.of b) (Cn.of a)).mono (show _ ≤ 13 by omega)
   have cc := (Cn.sub (Cn.of c) (Cn.of a)).mono (show _ ≤ 13 by omega)
   exact (Cn.meet ho hd ca cb cc h0).mono (by omega)
theorem geo_F {s : ScL} (ok : ScOk s) {bin : Nat} (hb : bin < s.waves.length) : (fcsOf s bin).Geo (triF s) s.faces.length where
 normal := fun f hf => by
  obtain ⟨l, _, _, h⟩ := unitF_spec ok hf
  exact ⟨l, h⟩
 rev := fun f d k p h hd => by
  have h' : (match matF s f with | some m => bendM s.waves m bin (decide (vdot d (unitF s f) < 0)) | none => none) = some k := h
  show (match matF s f with | some m => bendM s.waves m bin (decide (vdot (vmul (-1) (turnS (stretchS p (unitF s f) k) d)) (unitF s f) < 0)) | none => none) = some (1 / k)
  have hd' : vdot d (unitF s f) ≠ 0 := hd
  cases hm : matF s f with
  | none => rw [hm] at h'; cases h'
  | some m =>
   rw [hm] at h'
   simp only at h' ⊢
   have hfl : f < s.faces.length := by
    rcases Nat.lt_or_ge f s.faces.length with q | q
    ·exact q
    ·unfold matF at hm
     rw [List.getElem?_eq_none q] at hm
     cases hm
   obtain ⟨_, _, hn, _⟩ := unitF_spec ok hfl
   have e : vdot (vmul (-1) (turnS (stretchS p (unitF s f) k) d)) (unitF s f) = - (k * vdot d (unitF s f)) := by
    rw [← turn_dot (p := p) hn]
    generalize turnS (stretchS p (unitF s f) k) d = w
    unfold vdot vmul
    grind
   rw [e]
   generalize vdot d (unitF s f) = q at *
   unfold bendM at h' ⊢
   split at h'
   ·rename_i h1
    rw [if_pos h1]
    cases h'
    exact congrArg some (by decide +kernel)
   ·rename_i h1
    rw [if_neg h1]
    split at h'
    ·rename_i h2
     rw [if_pos h2]
     obtain ⟨eta, he, hp⟩ := eta_pos ok (matF_mem hm) hb h2
     rw [he] at h' ⊢
     simp only [Option.getD_some, Option.some.injEq] at h' ⊢
     have pos_mul : ∀ x y : Rat, 0 < x → 0 < y → 0 < x * y := fun x y hx hy => Rat.mul_pos hx hy
     by_cases hq : q < 0
     ·rw [decide_eq_true hq] at h'
      simp only [if_true] at h'
      subst h'
      have := pos_mul eta (-q) hp (by grind)
      rw [decide_eq_false (by grind)]
      simp only [Bool.false_eq_true, if_false]
     ·rw [decide_eq_false hq] at h'
      simp only [Bool.false_eq_true, if_false] at h'
      have hk : 0 < k := by
       rw [← h', Rat.div_def, Rat.one_mul]
       exact Rat.inv_pos.2 hp
      have hq2 : 0 < q := by grind
      have := pos_mul k q hk hq2
      rw [decide_eq_true (by grind)]
      simp only [if_true]
      rw [← h']
      grind
    ·cases h'
end Go.K
end
