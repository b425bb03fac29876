/-
  Parts of the proof, joined by a program of this work: KWp, KFn.
-/
import Derived.Test.YtjoimiljaljgcaaGreatMbd
import Derived.Deep.LoopGhost
set_option linter.unusedSectionVars false
set_option linter.unusedSimpArgs false
set_option linter.unusedVariables false
section
namespace Go.K
open Go
def backL (ids olds : List Nat) (k : Nat) : Option Nat :=
 match ids, olds with
 | i :: ir, o :: or => if k = i then some o else backL ir or k
 | _, _ => none
theorem backL_at : ∀ (ids olds : List Nat) (m k o : Nat), ids.Nodup → ids[m]? = some k → olds[m]? = some o → backL ids olds k = some o
 | [], olds, m, k, o, _, h, _ => by simp at h
 | i :: ir, [], m, k, o, _, _, h => by simp at h
 | i :: ir, o' :: or, m, k, o, hn, h1, h2 => by
  obtain ⟨n1, n2⟩ := List.nodup_cons.1 hn
  simp only [backL]
  cases m with
  | zero => simp at h1 h2; subst h1 h2; simp
  | succ m =>
   have h1' : ir[m]? = some k := by simpa using h1
   have : k ≠ i := fun e => by subst e; exact n1 (List.mem_of_getElem? h1')
   rw [if_neg this]
   exact backL_at ir or m k o n2 h1' (by simpa using h2)
theorem backL_some : ∀ (ids olds : List Nat) (k o : Nat), backL ids olds k = some o → ∃ m : Nat, ids[m]? = some k ∧ olds[m]? = some o
 | [], olds, k, o, h => by simp [backL] at h
 | i :: ir, [], k, o, h => by simp [backL] at h
 | i :: ir, o' :: or, k, o, h => by
  simp only [backL] at h
  split at h
  ·rename_i e; subst e; cases h; exact ⟨0, rfl, rfl⟩
  ·obtain ⟨m, h1, h2⟩ := backL_some ir or k o h
   exact ⟨m + 1, by simpa using h1, by simpa using h2⟩
theorem forth_some : ∀ (ids olds : List Nat) (o k : Nat), forth ids olds o = some k → ∃ m : Nat, ids[m]? = some k ∧ olds[m]? = some o
 | [], olds, k, o, h => by simp [forth] at h
 | i :: ir, [], k, o, h => by simp [forth] at h
 | i :: ir, o' :: or, o, k, h => by
  simp only [forth] at h
  split at h
  ·rename_i e; subst e; cases h; exact ⟨0, rfl, rfl⟩
  ·obtain ⟨m, h1, h2⟩ := forth_some ir or o k h
   exact ⟨m + 1, by simpa using h1, by simpa using h2⟩
theorem lookH_some : ∀ (ids : List Nat) (bs : List Blk) (k : Nat) (b : Blk), lookH ids bs k = some b → ∃ m : Nat, ids[m]? = some k ∧ bs[m]? = some b
 | [], olds, k, o, h => by simp [lookH] at h
 | i :: ir, [], k, o, h => by simp [lookH] at h
 | i :: ir, o' :: or, k, o, h => by
  simp only [lookH] at h
  split at h
  ·rename_i e; subst e; cases h; exact ⟨0, rfl, rfl⟩
  ·obtain ⟨m, h1, h2⟩ := lookH_some ir or k o h
   exact ⟨m + 1, by simpa using h1, by simpa using h2⟩
theorem lookH_none : ∀ (ids : List Nat) (bs : List Blk) (k : Nat), ids.length = bs.length → lookH ids bs k = none → k ∉ ids
 | [], bs, k, _, _ => by simp
 | i :: ir, [], k, hl, _ => by simp at hl
 | i :: ir, b :: br, k, hl, h => by
  simp only [lookH] at h
  split at h
  ·cases h
  ·rename_i hne
   have := lookH_none ir br k (by simpa using hl) h
   simp [hne, this]
theorem lookL_some : ∀ (ks : List Nat) (f : Nat → V) (t : Nat), lookL ks (ks.map f) t = f t ∨ lookL ks (ks.map f) t = .junk
 | [], f, t => .inr rfl
 | k :: kr, f, t => by
  simp only [List.map_cons, lookL]
  split
  ·rename_i e; subst e; exact .inl rfl
  ·exact lookL_some kr f t
section
variable {ι : Nat → Option Value} {imm : Nat → Prop} {h : Heap} {w : World}
theorem Inv.renamed (I : Inv ι imm h w) {ids olds : List Nat} {bs : List Blk} (hb : getAll h olds = some bs) (hid : ids.Nodup) (hol : olds.Nodup) (hl : ids.length = olds.length) {f : Nat → Option Nat}
  (hf : ∀ o k, f o = some k → ∃ m : Nat, ids[m]? = some k ∧ olds[m]? = some o) {h' : Heap} (h1 : ∀ k B, h' k = some B → ∃ (m : Nat) (B0 : Blk), ids[m]? = some k ∧ bs[m]? = some B0 ∧ B = renB f B0) (h2 : ∀ k, h' k = none → k ∉ ids) :
  Inv (fun k => (backL ids olds k).bind ι) imm h' w ∧ (∀ g, Owned (fun k => (backL ids olds k).bind ι) h' g → Owned ι h g) ∧ (∀ i k v, f i = some k → ι i = some v → (backL ids olds k).bind ι = some v) := by
 obtain ⟨b1, b2⟩ := getAll_ok _ _ hb
 have hι : ∀ i k v, f i = some k → ι i = some v → (backL ids olds k).bind ι = some v := fun i k v hk hv => by
  obtain ⟨m, q1, q2⟩ := hf i k hk
  rw [backL_at ids olds m k i hid q1 q2]
  exact hv
 have hcase : ∀ k B, h' k = some B → ∃ (m : Nat) (o : Nat) (B0 : Blk) (v : Value), ids[m]? = some k ∧ olds[m]? = some o ∧ h o = some B0 ∧ B = renB f B0 ∧ ι o = some v ∧ (backL ids olds k).bind ι = some v ∧ BlkRep ι imm w B0 v := fun k B hB => by
  obtain ⟨m, B0, q1, q2, rfl⟩ := h1 k B hB
  have hm : m < olds.length := by have := (List.getElem?_eq_some_iff.1 q1).1; omega
  have q3 : olds[m]? = some olds[m] := List.getElem?_eq_getElem hm
  obtain ⟨B1, q4, q5⟩ := b2 m _ q3
  rw [q2] at q4; cases q4
  obtain ⟨v, q6, q7⟩ := I.blk _ _ q5
  exact ⟨m, _, B0, v, q1, q3, q5, rfl, q6, by rw [backL_at ids olds m k _ hid q1 q3]; exact q6, q7⟩
 have own : ∀ g, Owned (fun k => (backL ids olds k).bind ι) h' g → Owned ι h g := fun g ⟨k, B, v, q1, q2, q3, q4⟩ => by
  obtain ⟨m, o, B0, u, _, _, p1, rfl, p2, p3, _⟩ := hcase k B q1
  have q3' : (backL ids olds k).bind ι = some v := q3
  rw [p3] at q3'; cases q3'
  exact ⟨o, B0, _, p1, by rw [live_renB] at q2; exact q2, p2, q4⟩
 refine ⟨⟨fun k B hB => ?_, fun k hk => ?_, fun g o => I.own g (own g o), ?_, I.lt⟩, own, hι⟩
 ·obtain ⟨m, o, B0, v, _, _, _, rfl, _, p3, p4⟩ := hcase k B hB
  exact ⟨v, p3, renB_rep hι p4⟩
 ·have := h2 k hk
  cases hq : backL ids olds k with
  | none => simp [hq]
  | some o =>
   obtain ⟨m, q1, _⟩ := backL_some ids olds k o hq
   exact absurd (List.mem_of_getElem? q1) this
 ·intro k1 k2 B1 B2 v1 v2 g q1 q2 l1 l2 e1 e2 g1 g2
  obtain ⟨m1, o1, A1, u1, a1, a2, a3, rfl, a4, a5, _⟩ := hcase k1 B1 q1
  obtain ⟨m2, o2, A2, u2, c1, c2, c3, rfl, c4, c5, _⟩ := hcase k2 B2 q2
  have e1' : (backL ids olds k1).bind ι = some v1 := e1
  have e2' : (backL ids olds k2).bind ι = some v2 := e2
  rw [a5] at e1'; cases e1'
  rw [c5] at e2'; cases e2'
  rw [live_renB] at l1 l2
  have := I.inj o1 o2 A1 A2 _ _ g a3 c3 l1 l2 a4 c4 g1 g2
  subst this
  have hm : m1 = m2 := by
   obtain ⟨t1, t2⟩ := List.getElem?_eq_some_iff.1 a2
   obtain ⟨t3, t4⟩ := List.getElem?_eq_some_iff.1 c2
   exact (List.getElem_inj hol).1 (t2.trans t4.symm)
  subst hm
  rw [a1] at c1; cases c1; rfl
end
def BaseOk (B : Base) (m : Nat) : Prop := m ≤ 1000 ∧ ∀ id v, B.ι id = some v → id < m
theorem kept_sound {B : Base} {n m : Nat} (hB : BaseOk B m) {ks ids olds : List Nat} {s : St} {I : List V → List Blk → Prop} (hk : kept m ks ids olds s I) {a : Act} {w : World} (S : Sim B n s a w) :
  ∃ vs bs, vs.length = ks.length ∧ bs.length = ids.length ∧ I vs bs ∧ Sim B n (stOf ks vs ids bs) a w := by
 obtain ⟨hr, hk⟩ := hk
 simp only [renOk, Bool.and_eq_true, beq_iff_eq] at hr
 obtain ⟨⟨⟨⟨r1, r2⟩, r3⟩, r4⟩, r5⟩ := hr
 split at hk
 ·rename_i bs hb
  obtain ⟨b1, b2⟩ := getAll_ok _ _ hb
  refine ⟨_, _, by simp, by simp [b1, r1], hk, ?_⟩
  obtain ⟨ι, imm, e, Iv, h1, h2, h3⟩ := S
  have hn1 := nodupB_ok _ r3
  have hn2 := nodupB_ok _ r2
  obtain ⟨I', own, hι⟩ := Iv.renamed (h' := lookH ids (bs.map (renB (forth ids olds)))) hb hn1 hn2 r1 (fun o k => forth_some ids olds o k) (fun k B hB => by
   obtain ⟨m, q1, q2⟩ := lookH_some _ _ _ _ hB
   rw [List.getElem?_map] at q2
   cases hq : bs[m]? with
   | none => rw [hq] at q2; cases q2
   | some B0 => rw [hq] at q2; cases q2; exact ⟨m, B0, q1, hq, rfl⟩) (fun k hk => lookH_none _ _ k (by simp [b1, r1]) hk)
  refine ⟨_, imm, ⟨fun id v hv => ?_, e.immS, e.immR, fun g o => e.own' g (own g o), e.keep, e.size, e.os, e.tape, e.output⟩, I', h1, h2, fun t => ?_⟩
  ·have hlt := hB.2 id v hv
   have hmem : id ∈ ids := by
    have := List.all_eq_true.1 r5 id (by simpa using hlt)
    simpa using this
   obtain ⟨p, hp⟩ := List.mem_iff_getElem?.1 hmem
   have hpl : p < olds.length := by have := (List.getElem?_eq_some_iff.1 hp).1; omega
   have hz : (ids.zip olds)[p]? = some (id, olds[p]) := by
    rw [List.getElem?_zip_eq_some]
    exact ⟨hp, List.getElem?_eq_getElem hpl⟩
   have hq := List.all_eq_true.1 r4 _ (List.mem_of_getElem? hz)
   have : olds[p] = id := by
    simp only [Bool.or_eq_true, beq_iff_eq, Bool.and_eq_true, decide_eq_true_eq] at hq
    rcases hq with q | ⟨q, _⟩
    ·exact q.symm
    ·have := hB.1; omega
   show (backL ids olds id).bind ι = some v
   rw [backL_at ids olds p id olds[p] hn1 hp (List.getElem?_eq_getElem hpl), this]
   exact e.ids id v hv
  ·show RepV _ imm w (lookL ks _ t) _
   rcases lookL_some ks (fun t => ren (forth ids olds) (s.sl t)) t with q | q
   ·rw [q]; exact ren_rep hι (h3 t)
   ·rw [q]; trivial
 ·exact hk.elim
theorem bear1_sound {B : Base} {n : Nat} {s s' : St} {b : Bth} (hb : bear1 s b = some s') {a : Act} {w : World} (S : Sim B n s a w) : Sim B n s' a w := by
 obtain ⟨ι, imm, e, I, h1, h2, h3⟩ := S
 cases b with
 | slot t id T sz =>
  simp only [bear1] at hb
  split at hb
  ·rename_i ht hid
   cases hb
   have st := I.fresh hid (.slice none 0 0) (.row true T sz []) (w' := w) (Nat.le_refl _) (fun _ _ => rfl) rfl rfl rfl (fun g hg => by cases hg)
    ⟨[], rowOwn_nil w 0 T sz, fun _ q => absurd q List.not_mem_nil, fun _ _ q => absurd q (Nat.not_lt_zero _)⟩
   refine ⟨_, imm, e.trans st.2, st.1, h1, h2, fun t' => ?_⟩
   by_cases c : t' = t
   ·subst c
    have h := h3 t'
    rw [ht] at h
    have h' : a.tmps.getD t' undef = .slice none 0 0 := h
    show RepV _ imm w (upd s.sl t' (.own id sz) t') _
    rw [upd_same, h']
    exact ⟨upd_same _ _ _, .inl rfl⟩
   ·show RepV _ imm w (upd s.sl t (.own id sz) t') _
    rw [upd_other _ _ _ _ c]
    exact (h3 t').evo I st.2
  ·cases hb
 | cell j c id T sz =>
  simp only [bear1] at hb
  split at hb
  ·rename_i cs hj hid
   split at hb
   ·rename_i hc
    cases hb
    have st := I.fresh hid (.slice none 0 0) (.row true T sz []) (w' := w) (Nat.le_refl _) (fun _ _ => rfl) rfl rfl rfl (fun g hg => by cases hg)
     ⟨[], rowOwn_nil w 0 T sz, fun _ q => absurd q List.not_mem_nil, fun _ _ q => absurd q (Nat.not_lt_zero _)⟩
    have hji : j ≠ id := fun q => by subst q; rw [hid] at hj; cases hj
    have hj1 : upd s.h id (some (.row true T sz [])) j = some (.var cs) := (upd_other _ _ _ _ hji).trans hj
    obtain ⟨v, hv, hB⟩ := st.1.blk j _ hj1
    have hB' := hB
    obtain ⟨g, vs, T', rfl, q2, q3, q4⟩ := hB'
    have st2 := st.1.wrote hj1 rfl hv (B := .var (cs.set c (.own id sz))) (w' := w) rfl (fun _ _ => rfl) rfl rfl rfl (by
     refine ⟨g, vs, T', rfl, q2, by simpa using q3, fun i hi => ?_⟩
     have hi' : i < cs.length := by simpa using hi
     have := q4 i hi'
     by_cases ci : i = c
     ·subst ci
      have e1 : cs.getD i .junk = .nil := by simp [List.getD, hc]
      rw [e1] at this
      have h' : vs.getD i undef = .slice none 0 0 := this.1
      have e2 : (cs.set i (.own id sz)).getD i .junk = .own id sz := by simp [List.getD, hi']
      rw [e2, h']
      exact ⟨⟨upd_same _ _ _, .inl rfl⟩, rfl⟩
     ·have e2 : (cs.set c (.own id sz)).getD i .junk = cs.getD i .junk := by simp [List.getD, List.getElem?_set_ne (Ne.symm ci)]
      rw [e2]; exact this)
    exact ⟨_, imm, e.trans (st.2.trans st2.2), st2.1, h1, h2, fun t' => ((h3 t').evo I st.2).evo st.1 st2.2⟩
   ·cases hb
  ·cases hb
theorem bear_sound {B : Base} {n : Nat} : ∀ (bl : List Bth) {s s' : St}, bear s bl = some s' → ∀ {a : Act} {w : World}, Sim B n s a w → Sim B n s' a w
 | [], s, s', hb, a, w, S => by cases hb; exact S
 | b :: r, s, s', hb, a, w, S => by
  simp only [bear] at hb
  split at hb
  ·rename_i s1 h1
   exact bear_sound r hb (bear1_sound h1 S)
  ·cases hb
def codeOk (n : Nat) : Code → Bool
 | .skip | .exit _ | .ret => true
 | .region _ ops draw => regOk n ops draw
 | .seq a b => codeOk n a && codeOk n b
 | .cond _ a b => codeOk n a && codeOk n b
 | .block _ b => codeOk n b
 | .loop b => codeOk n b
 | _ => false
def xOf : Exit → Option X
 | .normal => some .normal
 | .exit id => some (.exit id)
 | .ret => some .ret
 | _ => none
def Post (B : Base) (n : Nat) (Q : X → St → Prop) (e : Exit) (a : Act) (w : World) : Prop := ∃ x s, xOf e = some x ∧ Sim B n s a w ∧ Q x s
theorem regOk_edges {n : Nat} {ops : Array Oper} (h : regOk n ops true = true) : ∀ (j : Nat) (o : Oper), ops.toList[j]? = some o → ∀ e, e ∈ o.after.toList → Region.binds .any e = true → e.on < j := fun j o hj e he hb => by
 simp only [regOk, Bool.and_eq_true, Bool.not_true, Bool.false_or] at h
 have hj' : ops[j]? = some o := by simpa using hj
 have hlt : j < ops.size := (Array.getElem?_eq_some_iff.1 hj').1
 have := List.all_eq_true.1 h.2.1 j (by simpa using hlt)
 rw [hj'] at this
 have := List.all_eq_true.1 this e he
 simpa [hb] using this
theorem regOk_apart {n : Nat} {ops : Array Oper} (h : regOk n ops true = true) {i j : Nat} (hne : i ≠ j) (h1 : i ∉ (anc ops.toList).getD j []) (h2 : j ∉ (anc ops.toList).getD i []) {x y : Oper} (hx : ops[i]? = some x) (hy : ops[j]? = some y) :
  x.apart ops y = true := by
 simp only [regOk, Bool.and_eq_true, Bool.not_true, Bool.false_or] at h
 have li : i < ops.size := (Array.getElem?_eq_some_iff.1 hx).1
 have lj : j < ops.size := (Array.getElem?_eq_some_iff.1 hy).1
 have := List.all_eq_true.1 (List.all_eq_true.1 h.2.2 i (by simpa using li)) j (by simpa using lj)
 rw [hx, hy] at this
 simp only [Bool.or_eq_true, beq_iff_eq] at this
 rcases this with ((q | q) | q) | q
 ·exact absurd q hne
 ·exact absurd (ancM_ok _ _ _ q) h1
 ·exact absurd (ancM_ok _ _ _ q) h2
 ·exact q
theorem wp_sound {P : Program} {E : Env} {B : Base} {n : Nat} (ok : EnvOk P E) (hmix : P.follows .mixedOrders = true) (hB : BaseOk B E.m) :
  ∀ (c : Code) (s : St) (Q : X → St → Prop) (a : Act) (w : World), codeOk n c = true → wp Ω E c s Q → Sim B n s a w → c.wp P (Post B n Q) a w
 | .skip, s, Q, a, w, _, h, S => wp_skip ⟨.normal, s, rfl, S, h⟩
 | .exit id, s, Q, a, w, _, h, S => wp_exit ⟨.exit id, s, rfl, S, h⟩
 | .ret, s, Q, a, w, _, h, S => wp_ret ⟨.ret, s, rfl, S, h⟩
 | .region id ops draw, s, Q, a, w, hc, h, S => by
  have hc' : regOk n ops draw = true := hc
  cases draw with
  | false =>
   refine wp_region ?_
   have := wpl_sound ok (regOk_dst hc') (Q := Post B n Q) ops.toList 0 (fun j => by simp) [] s a w _ h S (fun log s' a' w' hq S' => ⟨.normal, s', rfl, S', hq.2⟩)
   rw [List.range_eq_range', ← Array.length_toList]
   exact this
  | true =>
   refine wp_region_any hmix ?_
   have h' : wpl Ω E true (1000 + 100 * id) ops ops.toList 0 [] s fun log s' => (if true then logOk (ancM ops.toList) log = true else True) ∧ Q .normal s' := h
   obtain ⟨tr, s', t1, t2, t3, t4⟩ := wpl_trc ops.toList 0 (fun j => by simp) _ s _ h'
   simp only [if_true, List.append_nil] at t3
   have hlen : tr.length = ops.size := by
    have := congrArg List.length t1
    simpa using this
   refine draw_sound ok (regOk_dst hc') (regOk_edges hc') (Q := Post B n Q) (s' := s') (fun a w S' => ⟨.normal, s', rfl, S', t4⟩) ops.size tr _ s a _ hlen t2 S.drew (by simp) ?_ (fun i hi => ?_) (fun i hi hl => ?_) (fun x y hx hy hxy hanc => ?_)
   ·rw [t1]; exact List.pairwise_lt_range'
   ·rw [t1]
    simp [Array.getD, hi]
   ·simp [Array.getD, hi] at hl
   ·have h2 : y.1 ∉ (anc ops.toList).getD x.1 [] := fun q => by
     have := anc_lt ops.toList (regOk_edges hc') (x.1 + 1) x.1 (Nat.lt_succ_self _) y.1 q
     omega
    have log : ∀ u v, u ∈ tr → v ∈ tr → u.1 ≠ v.1 → u.1 ∉ (anc ops.toList).getD v.1 [] → v.1 ∉ (anc ops.toList).getD u.1 [] → ∀ i, i ∈ wrOf u.2 → i ∉ rdOf v.2 := fun u v hu hv hne q1 q2 i hi hi' => by
     have k1 := List.all_eq_true.1 t3 ⟨u.1, rdOf u.2, wrOf u.2⟩ (by simp only [List.mem_reverse, List.mem_map]; exact ⟨u, hu, rfl⟩)
     simp only [Bool.or_eq_true, List.isEmpty_iff] at k1
     rcases k1 with k1 | k1
     ·have k1' : wrOf u.2 = [] := k1
      rw [k1'] at hi; cases hi
     ·have k2 := List.all_eq_true.1 k1 ⟨v.1, rdOf v.2, wrOf v.2⟩ (by simp only [List.mem_reverse, List.mem_map]; exact ⟨v, hv, rfl⟩)
      simp only [Bool.or_eq_true, beq_iff_eq, Bool.not_eq_true'] at k2
      rcases k2 with ((k | k) | k) | k
      ·exact hne k.symm.symm
      ·have : meets (wrOf u.2) (rdOf v.2) = true := by
        simp only [meets, List.any_eq_true]
        exact ⟨i, hi, by simpa using hi'⟩
       rw [this] at k; cases k
      ·exact q1 (ancM_ok _ _ _ k)
      ·exact q2 (ancM_ok _ _ _ k)
    refine ⟨fun ox oy hox hoy => regOk_apart hc' (by omega) hanc h2 hox hoy, log x y hx hy (by omega) hanc h2, log y x hy hx (by omega) h2 hanc⟩
 | .seq c d, s, Q, a, w, hc, h, S => by
  simp only [codeOk, Bool.and_eq_true] at hc
  refine wp_seq (wp_mono (wp_sound ok hmix hB c s _ a w hc.1 h S) ?_)
  rintro e a' w' ⟨x, s', hx, S', hq⟩
  cases e with
  | normal => cases hx; exact wp_sound ok hmix hB d s' Q a' w' hc.2 hq S'
  | exit id => cases hx; exact ⟨_, s', rfl, S', hq⟩
  | ret => cases hx; exact ⟨_, s', rfl, S', hq⟩
  | _ => cases hx
 | .cond c x y, s, Q, a, w, hc, h, S => by
  simp only [codeOk, Bool.and_eq_true] at hc
  simp only [wp] at h
  split at h
  ·rename_i t ht
   have hev : a.eval c = .bool t := by
    obtain ⟨ι, imm, _, _, _, _, h3⟩ := S
    have := ev_rep h3 c
    rw [ht] at this
    exact repB this
   exact wp_cond_split hev (fun q => wp_sound ok hmix hB x s Q a w hc.1 (by subst q; rw [BrG_eq] at h; exact h) S) (fun q => wp_sound ok hmix hB y s Q a w hc.2 (by subst q; rw [BrG_eq] at h; exact h) S)
  ·exact h.elim
 | .block id c, s, Q, a, w, hc, h, S => by
  refine wp_block (wp_mono (wp_sound ok hmix hB c s _ a w hc h S) ?_)
  rintro e a' w' ⟨x, s', hx, S', hq⟩
  cases e with
  | normal => cases hx; exact ⟨_, s', rfl, S', hq⟩
  | exit j =>
   cases hx
   have hq' : if j = id then Q .normal s' else Q (.exit j) s' := hq
   simp only [Exit.inBlock]
   by_cases c : j = id
   ·rw [if_pos c] at hq' ⊢
    exact ⟨_, s', rfl, S', hq'⟩
   ·rw [if_neg c] at hq' ⊢
    exact ⟨_, s', rfl, S', hq'⟩
  | ret => cases hx; exact ⟨_, s', rfl, S', hq⟩
  | _ => cases hx
 | .loop c, s, Q, a, w, hc, h, S => by
  obtain ⟨σ, ks, ids, fv, fb, I, μ, ⟨bl, x0, olds, hI, hk⟩, hround⟩ := h
  obtain ⟨s0, S0, hk⟩ : ∃ s0, Sim B n s0 a w ∧ kept E.m ks (ids x0) olds s0 fun a b => a = fv x0 ∧ b = fb x0 := by
   unfold keptB at hk
   split at hk
   ·rename_i s0 hb; exact ⟨s0, bear_sound bl hb S, hk⟩
   ·exact hk.elim
  obtain ⟨vs, bs, l1, l2, ⟨rfl, rfl⟩, S1⟩ := kept_sound hB hk S0
  refine wp_loop_ghost (fun k a w => ∃ x, I x ∧ μ x = k ∧ Sim B n (stOf ks (fv x) (ids x) (fb x)) a w) (μ x0) ⟨x0, hI, rfl, S1⟩ ?_
  rintro k a1 w1 ⟨y, hI, rfl, S1⟩
  refine wp_mono (wp_sound ok hmix hB c _ _ a1 w1 hc (hround y hI) S1) ?_
  rintro e a' w' ⟨x, s', hx, S', hq⟩
  cases e with
  | normal =>
   cases hx
   obtain ⟨z, olds', hI', hμ, hk'⟩ := hq
   obtain ⟨vs', bs', l1', l2', ⟨rfl, rfl⟩, S2⟩ := kept_sound hB hk' S'
   exact ⟨_, hμ, z, hI', rfl, S2⟩
  | exit j => cases hx; exact ⟨_, s', rfl, S', hq⟩
  | ret => cases hx; exact ⟨_, s', rfl, S', hq⟩
  | _ => cases hx
end Go.K
end
section
namespace Go.K
open Go
section
variable {ι : Nat → Option Value} {imm : Nat → Prop} {w : World} {P : Program} {tt : TypeId → Option TInfo}
theorem resOne_ok (ht : TTok P tt) {s : St} (I : Inv ι imm s.h w) {tmps : Array Value} (hr : ∀ t, RepV ι imm w (s.sl t) (tmps.getD t undef)) {rv : ResultVar} {v : V} (h : resOne tt s rv = some v) :
  ∃ x, (match rv with | .tmp t => pure (tmps.getD t undef) | .cell a t => do loadVar t (← asAddr (tmps.getD a undef)) : Sem Value).run P w = .ok x w ∧ RepV0 ι imm w v x := by
 cases rv with
 | tmp t =>
  refine ⟨tmps.getD t undef, rfl, ?_⟩
  have := hr t
  simp only [resOne] at h
  generalize s.sl t = q at h this
  cases q <;> first | (cases h; done) | (cases h; exact this)
 | cell a T =>
  simp only [resOne] at h
  split at h
  ·rename_i i j off hT hs
   have hTT := ht _ _ hT
   split at h
   ·rename_i cs hj
    split at h
    ·rename_i hc
     cases h
     have h1 := hr a
     rw [hs] at h1
     obtain ⟨g, q1, q2⟩ := h1
     obtain ⟨v', h4, g', vs, T', h5, h6, h7, h8⟩ := I.blk j _ hj
     rw [q1] at h4; cases h4; cases h5
     have hone : isAggT i.und = false → i.size = 1 := fun q => hc.2.resolve_left (by rw [q]; decide)
     have hrun := run_loadVar_at hTT w (off := off) h6 (by omega) hone
     have hrep := shape_take (ι := ι) h7 h8 hc.1 hone
     refine ⟨_, (by simp only [q2, asAddr, Sem.run_bind, Sem.run_pure, Result.andThen_ok, hrun]; rfl), ?_⟩
     cases ha : isAggT i.und with
     | true => rw [ha] at hrep; exact hrep
     | false =>
      rw [ha] at hrep
      generalize hq : shapeV false ((cs.drop off).take i.size) = q at hrep ⊢
      cases q with
      | tup l =>
       exfalso
       have hn := hone ha
       rw [hn] at hq
       have hlt : off < cs.length := by omega
       have h9 : shapeV false ((cs.drop off).take 1) = cs.getD off .junk := by
        simp [shapeV, List.headD, List.getD, hlt, List.take_one, List.head?_drop]
       rw [h9] at hq
       have := (h8 off hlt).1
       rw [hq] at this
       exact this
      | _ => exact hrep
    ·cases h
   ·cases h
  ·cases h
theorem resList_ok (ht : TTok P tt) {s : St} (I : Inv ι imm s.h w) {tmps : Array Value} (hr : ∀ t, RepV ι imm w (s.sl t) (tmps.getD t undef)) : ∀ (l : List ResultVar) (vs : List V), resList tt s l = some vs →
  ∃ xs : List Value, (l.mapM fun (x : ResultVar) => (match x with | .tmp t => pure (tmps.getD t undef) | .cell a t => do loadVar t (← asAddr (tmps.getD a undef)) : Sem Value)).run P w = .ok xs w ∧ xs.length = vs.length ∧
   ∀ j, j < vs.length → RepV0 ι imm w (vs.getD j .junk) (xs.getD j undef)
 | [], vs, h => by cases h; exact ⟨[], rfl, rfl, fun j hj => absurd hj (Nat.not_lt_zero _)⟩
 | r :: l, vs, h => by
  simp only [resList] at h
  split at h
  ·rename_i v vs' h1 h2
   cases h
   obtain ⟨x, k1, k2⟩ := resOne_ok ht I hr h1
   obtain ⟨xs, k3, k4, k5⟩ := resList_ok ht I hr l vs' h2
   refine ⟨x :: xs, ?_, by simp [k4], fun j hj => ?_⟩
   ·rw [List.mapM_cons, Sem.run_bind, k1]
    simp only [Result.andThen_ok, Sem.run_bind, k3, Sem.run_pure]
   ·cases j with
    | zero => exact k2
    | succ j => exact k5 j (by simpa using hj)
  ·cases h
theorem resOf_ok (ht : TTok P tt) {s : St} (I : Inv ι imm s.h w) {fn : Func} {tmps : Array Value} (hr : ∀ t, RepV ι imm w (s.sl t) (tmps.getD t undef)) {r : V} (h : resOf tt s fn.results.toList = some r) :
  ∃ v, (results fn tmps).run P w = .ok v w ∧ RepV ι imm w r v := by
 have key : ∃ vs, resList tt s fn.results.toList = some vs ∧ ((∃ v, vs = [v] ∧ r = v) ∨ (vs.length ≠ 1 ∧ r = .tup vs)) := by
  unfold resOf at h
  split at h
  ·rename_i v hv; cases h; exact ⟨_, hv, .inl ⟨_, rfl, rfl⟩⟩
  ·rename_i vs hne hv; cases h
   refine ⟨vs, hv, .inr ⟨fun q => ?_, rfl⟩⟩
   obtain ⟨v, rfl⟩ := List.length_eq_one_iff.1 q
   exact hne v rfl
  ·cases h
 obtain ⟨vs, hvs, hcase⟩ := key
 obtain ⟨xs, h1, h2, h3⟩ := resList_ok ht I hr _ _ hvs
 have hm : (fn.results.mapM fun (x : ResultVar) => (match x with | .tmp t => pure (tmps.getD t undef) | .cell a t => do loadVar t (← asAddr (tmps.getD a undef)) : Sem Value)).run P w = .ok xs.toArray w := by
  have : fn.results.mapM (fun (x : ResultVar) => (match x with | .tmp t => pure (tmps.getD t undef) | .cell a t => do loadVar t (← asAddr (tmps.getD a undef)) : Sem Value)) = (do
    let l ← fn.results.toList.mapM fun (x : ResultVar) => (match x with | .tmp t => pure (tmps.getD t undef) | .cell a t => do loadVar t (← asAddr (tmps.getD a undef)) : Sem Value)
    pure l.toArray) := by
   rw [Array.mapM_eq_mapM_toList]
   rfl
  rw [this, Sem.run_bind, h1]
  rfl
 have hres : (results fn tmps).run P w = .ok (if h : xs.toArray.size = 1 then xs.toArray[0] else .tuple xs.toArray) w := by
  unfold results
  rw [Sem.run_bind]
  erw [hm]
  rfl
 refine ⟨_, hres, ?_⟩
 rcases hcase with ⟨v, rfl, rfl⟩ | ⟨hne, rfl⟩
 ·have hl : xs.length = 1 := h2
  obtain ⟨x, rfl⟩ := List.length_eq_one_iff.1 hl
  have := h3 0 (by simp)
  exact V_of_V0 this
 ·have hl : ¬ xs.toArray.size = 1 := by simp; omega
  rw [dif_neg hl]
  exact ⟨xs.toArray, rfl, by simp [h2], fun j hj => by
   have := h3 j hj
   have hj' : j < xs.length := by omega
   have e : xs.toArray.getD j undef = xs.getD j undef := by simp [Array.getD, hj', List.getD]
   rw [e]; exact this⟩
theorem finV_ok {h : Heap} {s : St} (I : Inv ι imm s.h w) {r r' : V} {v : Value} (hr : RepV ι imm w r v) (hf : finV Ω s.h r = some r') :
  ∃ imm' h1, Inv ι imm' h1 w ∧ Evo ι imm s.h w ι imm' h1 w ∧ RepV (fun _ => none) imm' w r' v := by
 have one : ∀ (y : V) (x : Value) (d : D) (L : List Nat) (imm' : Nat → Prop) (I' : Inv ι imm' (ups s.h (freezeL s.h L)) w) (e : Evo ι imm s.h w ι imm' (ups s.h (freezeL s.h L)) w), (∀ i, i ∈ idsOf y → i ∈ L) → RepV ι imm w y x → toD Ω s.h y = some d → RepD imm' w d x :=
  fun y x d L imm' I' e hL hy hd => toD_rep I' (fun i hi l e z xs hx => freezeL_done s.h L i (hL i hi) l e z xs hx) (hy.evo I e) hd
 by_cases ht : ∃ cs, r = .tup cs
 ·obtain ⟨cs, rfl⟩ := ht
  simp only [finV] at hf
  split at hf
  ·rename_i ds hds
   cases hf
   obtain ⟨imm', I', e⟩ := Inv.freezeL (cs.flatMap idsOf) I
   obtain ⟨d1, d2⟩ := toDs_ok _ _ hds
   obtain ⟨vs, h1, h2, h3⟩ := hr
   refine ⟨imm', _, I', e, vs, h1, by simp; omega, fun j hj => ?_⟩
   have hj' : j < ds.length := by simpa using hj
   have hjc : j < cs.length := by omega
   have e1 : (ds.map V.d).getD j .junk = .d (ds.getD j .np) := by simp [List.getD, hj']
   rw [e1]
   refine one (cs.getD j .junk) _ _ _ _ I' e (fun i hi => List.mem_flatMap.2 ⟨cs.getD j .junk, ?_, hi⟩) (V_of_V0 (h3 j hjc)) (d2 j hjc)
   rw [List.getD_eq_getElem?_getD, List.getElem?_eq_getElem hjc]
   exact List.getElem_mem hjc
  ·cases hf
 ·have hf' : ∃ d, toD Ω s.h r = some d ∧ r' = .d d := by
   unfold finV at hf
   split at hf
   ·exact absurd ⟨_, rfl⟩ ht
   ·split at hf
    ·rename_i d hd; cases hf; exact ⟨d, hd, rfl⟩
    ·cases hf
  obtain ⟨d, hd, rfl⟩ := hf'
  obtain ⟨imm', I', e⟩ := Inv.freezeL (idsOf r) I
  exact ⟨imm', _, I', e, one r v d _ _ I' e (fun i hi => hi) hr hd⟩
end
theorem argS_rep {ι : Nat → Option Value} {imm : Nat → Prop} {w : World} {args : List V} {vs : Array Value} {k : Nat} (hs : vs.size = args.length) (h : ∀ j, j < args.length → RepV ι imm w (args.getD j .junk) (vs.getD j undef)) :
  ∀ t, RepV ι imm w (argS args t) ((vs ++ Array.replicate k undef).getD t undef) := fun t => by
 by_cases c : t < args.length
 ·have := h t c
  have hv : t < vs.size := by omega
  have e : (vs ++ Array.replicate k undef).getD t undef = vs.getD t undef := by
   simp [Array.getD_eq_getD_getElem?, Array.getElem?_append, hv]
  rw [e]; exact this
 ·have : argS args t = .junk := by
   unfold argS; rw [List.getD_eq_getElem?_getD, List.getElem?_eq_none (by omega)]; rfl
  rw [this]; trivial
theorem good_of_wpF {P : Program} {E : Env} {f : FuncId} {fn : Func} {args : List V} {r : V} (ok : EnvOk P E) (hmix : P.follows .mixedOrders = true) (hm : E.m = 0) (hf : P.funcs[f]? = some fn) (hn : (fn.name == "runtime.NumGoroutine") = false)
  (hc : (match fn.body with | some c => codeOk fn.ntmps c | none => false) = true) (ha : args.length ≤ fn.ntmps) (h : wpF Ω E fn args (fun x => x = r)) : Good P f args [] r [] := by
 unfold wpF at h
 cases hb : fn.body with
 | none => rw [hb] at hc; cases hc
 | some c =>
  rw [hb] at h hc
  simp only at h hc
  refine ⟨⟨fn, hf, hn, by rw [hb]; rfl⟩, fun ι imm w vs I hs hr => ?_⟩
  have h0 : mkH [] = fun _ => none := by funext id; exact mkH_nil id
  let B : Base := ⟨ι, imm, mkH [], w⟩
  have hB : BaseOk B E.m := ⟨by omega, fun id v hv => by
   have : ι id = none := I.non id (mkH_nil id)
   have hv' : ι id = some v := hv
   rw [this] at hv'; cases hv'⟩
  refine calls_of_wp hf hb (wp_mono (wp_sound (B := B) (n := fn.ntmps) ok hmix hB c _ _ _ w hc h ⟨ι, imm, by rw [← h0]; exact .refl _ _ _ _, by rw [← h0]; exact I, by simp; omega, rfl, argS_rep hs hr⟩) ?_)
  rintro e a' w' ⟨x, s', hx, S', hq⟩
  have fin : (match resOf E.tt s' fn.results.toList with
    | some r0 => match finV Ω s'.h r0 with
     | some r' => r' = r
     | none => False
    | none => False) → a'.defers = [] ∧ ∃ v, (results fn a'.tmps).run P w' = .ok v w' ∧ ∃ v0 ι' imm', Ending.returned v = .returned v0 ∧ Evo ι imm (mkH []) w ι' imm' (mkH []) w' ∧ Inv ι' imm' (mkH []) w' ∧ RepV ι' imm' w' r v0 := fun hq => by
   obtain ⟨ι1, imm1, e1, I1, q1, q2, q3⟩ := S'
   split at hq
   ·rename_i r0 hr0
    split at hq
    ·rename_i r' hr'
     subst hq
     obtain ⟨v, k1, k2⟩ := resOf_ok ok.tt I1 (fn := fn) q3 hr0
     obtain ⟨imm2, h2, I2, e2, k3⟩ := finV_ok (h := s'.h) I1 k2 hr'
     have e3 := e1.trans e2
     refine ⟨q2, v, k1, v, fun _ => none, imm2, rfl, ⟨fun id v hv => ?_, e3.immS, e3.immR, fun g o => absurd o (not_owned_nil _ g), e3.keep, e3.size, e3.os, e3.tape, e3.output⟩,
      ⟨fun id B hid => (by rw [mkH_nil] at hid; cases hid), fun _ _ => rfl, fun g o => absurd o (not_owned_nil _ g), fun a b A B x y g h1 => (by rw [mkH_nil] at h1; cases h1), I2.lt⟩, k3⟩
     have : ι id = none := I.non id (mkH_nil id)
     rw [this] at hv; cases hv
    ·exact hq.elim
   ·exact hq.elim
  cases e with
  | normal => cases hx; exact fin hq
  | ret => cases hx; exact fin hq
  | exit id => cases hx; exact hq.elim
  | _ => cases hx
theorem good_of_wpF2 {P : Program} {E : Env} {f : FuncId} {fn : Func} {args : List V} {bs bs' : List Blk} {r : V} (ok : EnvOk P E) (hmix : P.follows .mixedOrders = true) (hm : E.m = bs.length) (hm2 : bs.length ≤ 1000) (hf : P.funcs[f]? = some fn)
  (hn : (fn.name == "runtime.NumGoroutine") = false) (hc : (match fn.body with | some c => codeOk fn.ntmps c | none => false) = true) (ha : args.length ≤ fn.ntmps) (h : wpF2 Ω E fn args bs (fun x b => x = r ∧ b = bs')) : Good P f args bs r bs' := by
 unfold wpF2 at h
 cases hb : fn.body with
 | none => rw [hb] at hc; cases hc
 | some c =>
  rw [hb] at h hc
  simp only at h hc
  refine ⟨⟨fn, hf, hn, by rw [hb]; rfl⟩, fun ι imm w vs I hs hr => ?_⟩
  let B : Base := ⟨ι, imm, mkH bs, w⟩
  have hdom : ∀ id v, ι id = some v → id < bs.length := fun id v hv => by
   rcases Nat.lt_or_ge id bs.length with q | q
   ·exact q
   ·have : ι id = none := I.non id (by simp only [mkH]; exact List.getElem?_eq_none q)
    rw [this] at hv; cases hv
  have hB : BaseOk B E.m := ⟨by omega, fun id v hv => by have := hdom id v hv; omega⟩
  refine calls_of_wp hf hb (wp_mono (wp_sound (B := B) (n := fn.ntmps) ok hmix hB c _ _ _ w hc h ⟨ι, imm, .refl _ _ _ _, I, by simp; omega, rfl, argS_rep hs hr⟩) ?_)
  rintro e a' w' ⟨x, s', hx, S', hq⟩
  have fin : (match resOf E.tt s' fn.results.toList with
    | some r0 => ∃ news, nodupB (List.range bs.length ++ news) = true ∧ match getAll s'.h (List.range bs.length ++ news) with
     | some b => ren (fore (List.range bs.length ++ news)) r0 = r ∧ b.map (renB (fore (List.range bs.length ++ news))) = bs'
     | none => False
    | none => False) → a'.defers = [] ∧ ∃ v, (results fn a'.tmps).run P w' = .ok v w' ∧ ∃ v0 ι' imm', Ending.returned v = .returned v0 ∧ Evo ι imm (mkH bs) w ι' imm' (mkH bs') w' ∧ Inv ι' imm' (mkH bs') w' ∧ RepV ι' imm' w' r v0 := fun hq => by
   obtain ⟨ι1, imm1, e1, I1, q1, q2, q3⟩ := S'
   split at hq
   ·rename_i r0 hr0
    obtain ⟨news, hnd, hq⟩ := hq
    split at hq
    ·rename_i b hb'
     obtain ⟨rfl, rfl⟩ := hq
     obtain ⟨v, k1, k2⟩ := resOf_ok ok.tt I1 (fn := fn) q3 hr0
     have hn2 := nodupB_ok _ hnd
     obtain ⟨b1, b2⟩ := getAll_ok _ _ hb'
     have hlen : b.length = (List.range bs.length ++ news).length := b1
     obtain ⟨I2, own, hι⟩ := I1.renamed (ids := List.range (List.range bs.length ++ news).length) (h' := mkH (b.map (renB (fore (List.range bs.length ++ news))))) hb' List.nodup_range hn2 (by simp) (f := fore (List.range bs.length ++ news)) (fun o k hk => by
       have := fore_some hk
       exact ⟨k, by rw [List.getElem?_range (List.getElem?_eq_some_iff.1 this).1], this⟩) (fun k B0 hB0 => by
       simp only [mkH, List.getElem?_map] at hB0
       cases hk : b[k]? with
       | none => rw [hk] at hB0; cases hB0
       | some B1 =>
        rw [hk] at hB0; cases hB0
        have hlt := (List.getElem?_eq_some_iff.1 hk).1
        exact ⟨k, B1, by rw [List.getElem?_range (by omega)], hk, rfl⟩) (fun k hk hmem => by
       have hlt : k < (List.range bs.length ++ news).length := by simpa using hmem
       simp only [mkH, List.getElem?_map] at hk
       rw [List.getElem?_eq_getElem (by omega : k < b.length)] at hk
       cases hk)
     refine ⟨q2, v, k1, v, _, imm1, rfl, ⟨fun id v hv => ?_, e1.immS, e1.immR, fun g o => e1.own' g (own g o), e1.keep, e1.size, e1.os, e1.tape, e1.output⟩, I2, ren_rep hι k2⟩
     have hlt := hdom id v hv
     have h3 : (List.range bs.length ++ news)[id]? = some id := by
      rw [List.getElem?_append_left (by simpa using hlt), List.getElem?_range hlt]
     show (backL _ _ id).bind ι1 = some v
     have hl2 := (List.getElem?_eq_some_iff.1 h3).1
     rw [backL_at _ _ id id id List.nodup_range (by rw [List.getElem?_range hl2]) h3]
     exact e1.ids id v hv
    ·exact hq.elim
   ·exact hq.elim
  cases e with
  | normal => cases hx; exact fin hq
  | ret => cases hx; exact fin hq
  | exit id => cases hx; exact hq.elim
  | _ => cases hx
def envOf (P : Program) (tt : TypeId → Option TInfo) (md : FuncId → Bool) (m : Nat) (ro : FuncId → Bool) : Env := ⟨tt, fun g ds r => Good P g (ds.map V.d) [] r [], fun g args bs r bs' => Good P g args bs r bs', md, m, ro⟩
theorem envOf_ok {P : Program} {tt : TypeId → Option TInfo} (ht : TTok P tt) (md : FuncId → Bool) (m : Nat) (ro : FuncId → Bool) : EnvOk P (envOf P tt md m ro) := ⟨ht, fun _ _ _ h => h, fun _ _ _ _ _ h => h⟩
end Go.K
end
