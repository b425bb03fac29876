/-
  Parts of the proof, joined by a program of this work: KWp, KFn.
-/
import Derived.Test.YtlolgojfeijjhaaGreatDoorQag
import Derived.Deep.LoopGhost
set_option linter.unusedSectionVars false
set_option linter.unusedSimpArgs false
set_option linter.unusedVariables false
section
namespace Go.K
open Go
def backL (ids olds : List Nat) (k : Nat) : Option Nat :=
 match ids, olds with
 | i :: ir, o :: or => if k = i then some o else backL ir or k
 | _, _ => none
theorem backL_at : ∀ (ids olds : List Nat) (m k o : Nat), ids.Nodup → ids[m]? = some k → olds[m]? = some o → backL ids olds k = some o
 | [], olds, m, k, o, _, h, _ => by simp at h
 | i :: ir, [], m, k, o, _, _, h => by simp at h
 | i :: ir, o' :: or, m, k, o, hn, h1, h2 => by
  obtain ⟨n1, n2⟩ := List.nodup_cons.1 hn
  simp only [backL]
  cases m with
  | zero => simp at h1 h2; subst h1 h2; simp
  | succ m =>
   have h1' : ir[m]? = some k := by simpa using h1
   have : k ≠ i := fun e => by subst e; exact n1 (List.mem_of_getElem? h1')
   rw [if_neg this]
   exact backL_at ir or m k o n2 h1' (by simpa using h2)
theorem backL_some : ∀ (ids olds : List Nat) (k o : Nat), backL ids olds k = some o → ∃ m : Nat, ids[m]? = some k ∧ olds[m]? = some o
 | [], olds, k, o, h => by simp [backL] at h
 | i :: ir, [], k, o, h => by simp [backL] at h
 | i :: ir, o' :: or, k, o, h => by
  simp only [backL] at h
  split at h
  ·rename_i e; subst e; cases h; exact ⟨0, rfl, rfl⟩
  ·obtain ⟨m, h1, h2⟩ := backL_some ir or k o h
   exact ⟨m + 1, by simpa using h1, by simpa using h2⟩
theorem forth_some : ∀ (ids olds : List Nat) (o k : Nat), forth ids olds o = some k → ∃ m : Nat, ids[m]? = some k ∧ olds[m]? = some o
 | [], olds, k, o, h => by simp [forth] at h
 | i :: ir, [], k, o, h => by simp [forth] at h
 | i :: ir, o' :: or, o, k, h => by
  simp only [forth] at h
  split at h
  ·rename_i e; subst e; cases h; exact ⟨0, rfl, rfl⟩
  ·obtain ⟨m, h1, h2⟩ := forth_some ir or o k h
   exact ⟨m + 1, by simpa using h1, by simpa using h2⟩
theorem lookH_some : ∀ (ids : List Nat) (bs : List Blk) (k : Nat) (b : Blk), lookH ids bs k = some b → ∃ m : Nat, ids[m]? = some k ∧ bs[m]? = some b
 | [], olds, k, o, h => by simp [lookH] at h
 | i :: ir, [], k, o, h => by simp [lookH] at h
 | i :: ir, o' :: or, k, o, h => by
  simp only [lookH] at h
  split at h
  ·rename_i e; subst e; cases h; exact ⟨0, rfl, rfl⟩
  ·obtain ⟨m, h1, h2⟩ := lookH_some ir or k o h
   exact ⟨m + 1, by simpa using h1, by simpa using h2⟩
theorem lookH_none : ∀ (ids : List Nat) (bs : List Blk) (k : Nat), ids.length = bs.length → lookH ids bs k = none → k ∉ ids
 | [], bs, k, _, _ => by simp
 | i :: ir, [], k, hl, _ => by simp at hl
 | i :: ir, b :: br, k, hl, h => by
  simp only [lookH] at h
  split at h
  ·cases h
  ·rename_i hne
   have := lookH_none ir br k (by simpa using hl) h
   simp [hne, this]
theorem lookL_some : ∀ (ks : List Nat) (f : Nat → V) (t : Nat), lookL ks (ks.map f) t = f t ∨ lookL ks (ks.map f) t = .junk
 | [], f, t => .inr rfl
 | k :: kr, f, t => by
  simp only [List.map_cons, lookL]
  split
  ·rename_i e; subst e; exact .inl rfl
  ·exact lookL_some kr f t
section
variable {ι : Nat → Option Value} {imm : Nat → Prop} {h : Heap} {w : World}
theorem Inv.renamed (I : Inv ι imm h w) {ids olds : List Nat} {bs : List Blk} (hb : getAll h olds = some bs) (hid : ids.Nodup) (hol : olds.Nodup) (hl : ids.length = olds.length) {f : Nat → Option Nat}
  (hf : ∀ o k, f o = some k → ∃ m : Nat, ids[m]? = some k ∧ olds[m]? = some o) {h' : Heap} (h1 : ∀ k B, h' k = some B → ∃ (m : Nat) (B0 : Blk), ids[m]? = some k ∧ bs[m]? = some B0 ∧ B = renB f B0) (h2 : ∀ k, h' k = none → k ∉ ids) :
  Inv (fun k => (backL ids olds k).bind ι) imm h' w ∧ (∀ g, Owned (fun k => (backL ids olds k).bind ι) h' g → Owned ι h g) ∧ (∀ i k v, f i = some k → ι i = some v → (backL ids olds k).bind ι = some v) := by
 obtain ⟨b1, b2⟩ := getAll_ok _ _ hb
 have hι : ∀ i k v, f i = some k → ι i = some v → (backL ids olds k).bind ι = some v := fun i k v hk hv => by
  obtain ⟨m, q1, q2⟩ := hf i k hk
  rw [backL_at ids olds m k i hid q1 q2]
  exact hv
 have hcase : ∀ k B, h' k = some B → ∃ (m : Nat) (o : Nat) (B0 : Blk) (v : Value), ids[m]? = some k ∧ olds[m]? = some o ∧ h o = some B0 ∧ B = renB f B0 ∧ ι o = some v ∧ (backL ids olds k).bind ι = some v ∧ BlkRep ι imm w B0 v := fun k B hB => by
  obtain ⟨m, B0, q1, q2, rfl⟩ := h1 k B hB
  have hm : m < olds.length := by have := (List.getElem?_eq_some_iff.1 q1).1; omega
  have q3 : olds[m]? = some olds[m] := List.getElem?_eq_getElem hm
  obtain ⟨B1, q4, q5⟩ := b2 m _ q3
  rw [q2] at q4; cases q4
  obtain ⟨v, q6, q7⟩ := I.blk _ _ q5
  exact ⟨m, _, B0, v, q1, q3, q5, rfl, q6, by rw [backL_at ids olds m k _ hid q1 q3]; exact q6, q7⟩
 have own : ∀ g, Owned (fun k => (backL ids olds k).bind ι) h' g → Owned ι h g := fun g ⟨k, B, v, q1, q2, q3, q4⟩ => by
  obtain ⟨m, o, B0, u, _, _, p1, rfl, p2, p3, _⟩ := hcase k B q1
  have q3' : (backL ids olds k).bind ι = some v := q3
  rw [p3] at q3'; cases q3'
  exact ⟨o, B0, _, p1, by rw [live_renB] at q2; exact q2, p2, q4⟩
 refine ⟨⟨fun k B hB => ?_, fun k hk => ?_, fun g o => I.own g (own g o), ?_, I.lt⟩, own, hι⟩
 ·obtain ⟨m, o, B0, v, _, _, _, rfl, _, p3, p4⟩ := hcase k B hB
  exact ⟨v, p3, renB_rep hι p4⟩
 ·have := h2 k hk
  cases hq : backL ids olds k with
  | none => simp [hq]
  | some o =>
   obtain ⟨m, q1, _⟩ := backL_some ids olds k o hq
   exact absurd (List.mem_of_getElem? q1) this
 ·intro k1 k2 B1 B2 v1 v2 g q1 q2 l1 l2 e1 e2 g1 g2
  obtain ⟨m1, o1, A1, u1, a1, a2, a3, rfl, a4, a5, _⟩ := hcase k1 B1 q1
  obtain ⟨m2, o2, A2, u2, c1, c2, c3, rfl, c4, c5, _⟩ := hcase k2 B2 q2
  have e1' : (backL ids olds k1).bind ι = some v1 := e1
  have e2' : (backL ids olds k2).bind ι = some v2 := e2
  rw [a5] at e1'; cases e1'
  rw [c5] at e2'; cases e2'
  rw [live_renB] at l1 l2
  have := I.inj o1 o2 A1 A2 _ _ g a3 c3 l1 l2 a4 c4 g1 g2
  subst this
  have hm : m1 = m2 := by
   obtain ⟨t1, t2⟩ := List.getElem?_eq_some_iff.1 a2
   obtain ⟨t3, t4⟩ := List.getElem?_eq_some_iff.1 c2
   exact (List.getElem_inj hol).1 (t2.trans t4.symm)
  subst hm
  rw [a1] at c1; cases c1; rfl
end
def BaseOk (B : Base) (m : Nat) : Prop := m ≤ 1000 ∧ ∀ id v, B.ι id = some v → id < m
def SimI (B : Base) (n : Nat) (s : St) (a : Act) (w : World) (imm : Nat → Prop) : Prop :=
 ∃ ι, Evo B.ι B.imm B.h B.w ι imm s.h w ∧ Inv ι imm s.h w ∧ a.tmps.size = n ∧ marks B a.defers w ∧ ∀ t, RepV ι imm w (s.sl t) (a.tmps.getD t undef)
theorem kept_imm {B : Base} {n m : Nat} (hB : BaseOk B m) {ks ids olds : List Nat} {s : St} {I : List V → List Blk → Prop} (hk : kept m ks ids olds s I) {a : Act} {w : World} {imm : Nat → Prop} (S : SimI B n s a w imm) :
  ∃ vs bs, vs.length = ks.length ∧ bs.length = ids.length ∧ I vs bs ∧ SimI B n (stOf ks vs ids bs) a w imm := by
 obtain ⟨hr, hk⟩ := hk
 simp only [renOk, Bool.and_eq_true, beq_iff_eq] at hr
 obtain ⟨⟨⟨⟨r1, r2⟩, r3⟩, r4⟩, r5⟩ := hr
 split at hk
 ·rename_i bs hb
  obtain ⟨b1, b2⟩ := getAll_ok _ _ hb
  refine ⟨_, _, by simp, by simp [b1, r1], hk, ?_⟩
  obtain ⟨ι, e, Iv, h1, h2, h3⟩ := S
  have hn1 := nodupB_ok _ r3
  have hn2 := nodupB_ok _ r2
  obtain ⟨I', own, hι⟩ := Iv.renamed (h' := lookH ids (bs.map (renB (forth ids olds)))) hb hn1 hn2 r1 (fun o k => forth_some ids olds o k) (fun k B hB => by
   obtain ⟨m, q1, q2⟩ := lookH_some _ _ _ _ hB
   rw [List.getElem?_map] at q2
   cases hq : bs[m]? with
   | none => rw [hq] at q2; cases q2
   | some B0 => rw [hq] at q2; cases q2; exact ⟨m, B0, q1, hq, rfl⟩) (fun k hk => lookH_none _ _ k (by simp [b1, r1]) hk)
  refine ⟨_, ⟨fun id v hv => ?_, e.immS, e.immR, fun g o => e.own' g (own g o), e.keep, e.size, e.os, e.tape, e.output⟩, I', h1, h2, fun t => ?_⟩
  ·have hlt := hB.2 id v hv
   have hmem : id ∈ ids := by
    have := List.all_eq_true.1 r5 id (by simpa using hlt)
    simpa using this
   obtain ⟨p, hp⟩ := List.mem_iff_getElem?.1 hmem
   have hpl : p < olds.length := by have := (List.getElem?_eq_some_iff.1 hp).1; omega
   have hz : (ids.zip olds)[p]? = some (id, olds[p]) := by
    rw [List.getElem?_zip_eq_some]
    exact ⟨hp, List.getElem?_eq_getElem hpl⟩
   have hq := List.all_eq_true.1 r4 _ (List.mem_of_getElem? hz)
   have : olds[p] = id := by
    simp only [Bool.or_eq_true, beq_iff_eq, Bool.and_eq_true, decide_eq_true_eq] at hq
    rcases hq with q | ⟨q, _⟩
    ·exact q.symm
    ·have := hB.1; omega
   show (backL ids olds id).bind ι = some v
   rw [backL_at ids olds p id olds[p] hn1 hp (List.getElem?_eq_getElem hpl), this]
   exact e.ids id v hv
  ·show RepV _ imm w (lookL ks _ t) _
   rcases lookL_some ks (fun t => ren (forth ids olds) (s.sl t)) t with q | q
   ·rw [q]; exact ren_rep hι (h3 t)
   ·rw [q]; trivial
 ·exact hk.elim
theorem kept_sound {B : Base} {n m : Nat} (hB : BaseOk B m) {ks ids olds : List Nat} {s : St} {I : List V → List Blk → Prop} (hk : kept m ks ids olds s I) {a : Act} {w : World} (S : Sim B n s a w) :
  ∃ vs bs, vs.length = ks.length ∧ bs.length = ids.length ∧ I vs bs ∧ Sim B n (stOf ks vs ids bs) a w := by
 obtain ⟨ι, imm, S⟩ := S
 obtain ⟨vs, bs, h1, h2, h3, h4⟩ := kept_imm hB hk (imm := imm) ⟨ι, S⟩
 obtain ⟨ι', S'⟩ := h4
 exact ⟨vs, bs, h1, h2, h3, ι', imm, S'⟩
theorem bear1_sound {B : Base} {n : Nat} {s s' : St} {b : Bth} (hb : bear1 s b = some s') {a : Act} {w : World} (S : Sim B n s a w) : Sim B n s' a w := by
 obtain ⟨ι, imm, e, I, h1, h2, h3⟩ := S
 cases b with
 | slot t id T sz =>
  simp only [bear1] at hb
  split at hb
  ·rename_i ht hid
   cases hb
   have st := I.fresh hid (.slice none 0 0) (.row true T sz []) (w' := w) (Nat.le_refl _) (fun _ _ => rfl) rfl rfl rfl (fun g hg => by cases hg)
    ⟨[], rowOwn_nil w 0 T sz, fun _ q => absurd q List.not_mem_nil, fun _ _ q => absurd q (Nat.not_lt_zero _)⟩
   refine ⟨_, imm, e.trans st.2, st.1, h1, h2, fun t' => ?_⟩
   by_cases c : t' = t
   ·subst c
    have h := h3 t'
    rw [ht] at h
    have h' : a.tmps.getD t' undef = .slice none 0 0 := h
    show RepV _ imm w (upd s.sl t' (.own id sz) t') _
    rw [upd_same, h']
    exact ⟨upd_same _ _ _, .inl rfl⟩
   ·show RepV _ imm w (upd s.sl t (.own id sz) t') _
    rw [upd_other _ _ _ _ c]
    exact (h3 t').evo I st.2
  ·cases hb
 | cell j c id T sz =>
  simp only [bear1] at hb
  split at hb
  ·rename_i cs vt hj hid
   split at hb
   ·rename_i hc
    cases hb
    have st := I.fresh hid (.slice none 0 0) (.row true T sz []) (w' := w) (Nat.le_refl _) (fun _ _ => rfl) rfl rfl rfl (fun g hg => by cases hg)
     ⟨[], rowOwn_nil w 0 T sz, fun _ q => absurd q List.not_mem_nil, fun _ _ q => absurd q (Nat.not_lt_zero _)⟩
    have hji : j ≠ id := fun q => by subst q; rw [hid] at hj; cases hj
    have hj1 : upd s.h id (some (.row true T sz [])) j = some (.var cs vt) := (upd_other _ _ _ _ hji).trans hj
    obtain ⟨v, hv, hB⟩ := st.1.blk j _ hj1
    have hB' := hB
    obtain ⟨g, vs, T', rfl, q2, q3, q4⟩ := hB'
    have st2 := st.1.wrote hj1 rfl hv (B := .var (cs.set c (.own id sz)) vt) (w' := w) rfl (fun _ _ => rfl) rfl rfl rfl (by
     refine ⟨g, vs, T', rfl, q2, by simpa using q3, fun i hi => ?_⟩
     have hi' : i < cs.length := by simpa using hi
     have := q4 i hi'
     by_cases ci : i = c
     ·subst ci
      have e1 : cs.getD i .junk = .nil := by simp [List.getD, hc]
      rw [e1] at this
      have h' : vs.getD i undef = .slice none 0 0 := this.1
      have e2 : (cs.set i (.own id sz)).getD i .junk = .own id sz := by simp [List.getD, hi']
      rw [e2, h']
      exact ⟨⟨upd_same _ _ _, .inl rfl⟩, rfl⟩
     ·have e2 : (cs.set c (.own id sz)).getD i .junk = cs.getD i .junk := by simp [List.getD, List.getElem?_set_ne (Ne.symm ci)]
      rw [e2]; exact this)
    exact ⟨_, imm, e.trans (st.2.trans st2.2), st2.1, h1, h2, fun t' => ((h3 t').evo I st.2).evo st.1 st2.2⟩
   ·cases hb
  ·cases hb
theorem bear_sound {B : Base} {n : Nat} : ∀ (bl : List Bth) {s s' : St}, bear s bl = some s' → ∀ {a : Act} {w : World}, Sim B n s a w → Sim B n s' a w
 | [], s, s', hb, a, w, S => by cases hb; exact S
 | b :: r, s, s', hb, a, w, S => by
  simp only [bear] at hb
  split at hb
  ·rename_i s1 h1
   exact bear_sound r hb (bear1_sound h1 S)
  ·cases hb
theorem regOk_edges {n : Nat} {ops : Array Oper} (h : regOk n ops true = true) : ∀ (j : Nat) (o : Oper), ops.toList[j]? = some o → ∀ e, e ∈ o.after.toList → Region.binds .any e = true → e.on < j := fun j o hj e he hb => by
 simp only [regOk, Bool.and_eq_true, Bool.not_true, Bool.false_or] at h
 have hj' : ops[j]? = some o := by simpa using hj
 have hlt : j < ops.size := (Array.getElem?_eq_some_iff.1 hj').1
 have := List.all_eq_true.1 h.2.1 j (by simpa using hlt)
 rw [hj'] at this
 have := List.all_eq_true.1 this e he
 simpa [hb] using this
theorem regOk_apart {n : Nat} {ops : Array Oper} (h : regOk n ops true = true) {i j : Nat} (hne : i ≠ j) (h1 : i ∉ (anc ops.toList).getD j []) (h2 : j ∉ (anc ops.toList).getD i []) {x y : Oper} (hx : ops[i]? = some x) (hy : ops[j]? = some y) :
  x.apart ops y = true := by
 simp only [regOk, Bool.and_eq_true, Bool.not_true, Bool.false_or] at h
 have li : i < ops.size := (Array.getElem?_eq_some_iff.1 hx).1
 have lj : j < ops.size := (Array.getElem?_eq_some_iff.1 hy).1
 have := List.all_eq_true.1 (List.all_eq_true.1 h.2.2 i (by simpa using li)) j (by simpa using lj)
 rw [hx, hy] at this
 simp only [Bool.or_eq_true, beq_iff_eq] at this
 rcases this with ((q | q) | q) | q
 ·exact absurd q hne
 ·exact absurd (ancM_ok _ _ _ q) h1
 ·exact absurd (ancM_ok _ _ _ q) h2
 ·exact q
def codeR (n : Nat) : Code → Bool
 | .skip => true
 | .region _ ops draw => !draw && regOk n ops draw
 | .seq a b => codeR n a && codeR n b
 | .block _ b => codeR n b
 | _ => false
def codeOk (n : Nat) : Code → Bool
 | .skip | .exit _ | .ret => true
 | .region _ ops draw => regOk n ops draw
 | .seq a b => codeOk n a && codeOk n b
 | .cond _ a b => codeOk n a && codeOk n b
 | .block _ b => codeOk n b
 | .loop b => codeOk n b
 | .refuse _ => true
 | .rangeFunc _ ps a b => codeR n a && codeR n b && ps.toList.all fun p => decide (p < n)
 | _ => false
def xOf : Exit → Option X
 | .normal => some .normal
 | .exit id => some (.exit id)
 | .ret => some .ret
 | _ => none
def Post (B : Base) (n : Nat) (Q : X → St → Prop) (e : Exit) (a : Act) (w : World) : Prop := ∃ x s, xOf e = some x ∧ Sim B n s a w ∧ Q x s
theorem oper_soundR {P : Program} {E : Env} {B : Base} {n : Nat} (ok : EnvOk P E) (l m : Nat) {draw : Bool} {s : St} {a : Act} {w : World} (S : Sim B n s a w) {o : Oper} {id : Nat} {K : Out → Prop} (hK : opR Ω E draw (ev s.sl) s.h o.op id K) (hd : ∀ t, o.dst = some t → t < n)
  {next : Act → World → Prop} {Q : Exit → Act → World → Prop} (hn : ∀ out a' w', K out → Sim B n (step s o.dst out) a' w' → a'.defers = a.defers → next a' w') : o.wpIn (Fence.wide.inRound l) m P a w next Q := by
 obtain ⟨ι, imm, e, I, h1, h2, h3⟩ := S
 have hput : ∀ v, (a.put o.dst v).tmps.size = n := fun v => by cases o.dst <;> simp [Act.put, h1]
 have hdef : ∀ v, (a.put o.dst v).defers = a.defers := fun v => by cases o.dst <;> simp [Act.put]
 have hnd : ∀ c, o.op ≠ .defer c := fun c hc => by rw [hc] at hK; simp only [opR] at hK
 refine ⟨fun _ _ => trivial, ?_⟩
 rw [Oper.semAt_eq _ _ o hnd]
 rcases op_sound ok I (ev_rep h3) hK with ⟨out, v, w', ι', imm', hr, hk, e', I', hv⟩ | ⟨g, vs, hr, hc⟩
 ·have fin := hn out (a.put o.dst v) w' hk ⟨ι', imm', e.trans e', I', hput v, by rw [hdef]; exact h2.evo I e', put_rep h1 (fun t => (h3 t).evo I e') hd hv⟩ (hdef v)
  rcases hr with hr | ⟨hr, rfl⟩
  ·rw [hr]; exact fin
  ·rw [hr]; exact fin
 ·rw [hr]
  rw [Oper.uponIn_enter]
  refine ⟨fun h => (by cases h), (CallsIn.inRound l (callsIn_wide.2 hc)).mono ?_⟩
  rintro e0 w' ⟨v, out, ι', imm', rfl, hk, e', I', hv⟩
  exact hn out (a.put o.dst v) w' hk ⟨ι', imm', e.trans e', I', hput v, by rw [hdef]; exact h2.evo I e', put_rep h1 (fun t => (h3 t).evo I e') hd hv⟩ (hdef v)
theorem wpl_soundR {P : Program} {E : Env} {B : Base} {n : Nat} (ok : EnvOk P E) (l m : Nat) {base : Nat} {ops : Array Oper} (hd : ∀ (i : Nat) (o : Oper) (t : Tmp), ops[i]? = some o → o.dst = some t → t < n) {Q : Exit → Act → World → Prop} :
  ∀ (r : List Oper) (k : Nat), (∀ j : Nat, r[j]? = ops[k + j]?) → ∀ (log : List Foot) (s : St) (a : Act) (w : World) (K : List Foot → St → Prop), wpl Ω E false base ops r k log s K → Sim B n s a w → a.defers = [] →
   (∀ log s' a' w', K log s' → Sim B n s' a' w' → a'.defers = [] → Q .normal a' w') → wpOpsIn (Fence.wide.inRound l) m P ops Q (List.range' k r.length) a w
 | [], k, _, log, s, a, w, K, h, S, h0, hQ => hQ log s a w h S h0
 | o :: r, k, hr, log, s, a, w, K, h, S, hdf, hQ => by
  have h0 : ops[k]? = some o := by simpa using (hr 0).symm
  have hr' : ∀ j : Nat, r[j]? = ops[k + 1 + j]? := fun j => by have := hr (j + 1); simpa [Nat.add_assoc, Nat.add_comm 1 j] using this
  simp only [List.length_cons, List.range'_succ, wpOpsIn, h0]
  have hg : ∀ b, guardOf ops s.sl o = some b → Region.wanted o (yielded ops a.tmps) = b := fun b hb => by
   obtain ⟨ι, imm, e, I, h1, h2, h3⟩ := S
   exact guard_rep h3 hb
  rcases wpl_guard h with ⟨g, hop⟩ | ⟨g, hskip⟩
  ·rw [hg _ g]
   simp only [if_true]
   exact oper_soundR ok l m S hop (fun t ht => hd k o t h0 ht) fun out a' w' hk S' hd' => wpl_soundR ok l m hd r (k + 1) hr' _ _ a' w' K hk S' (hd'.trans hdf) hQ
  ·rw [hg _ g]
   simp only [Bool.false_eq_true, if_false]
   exact ⟨fun _ _ => trivial, wpl_soundR ok l m hd r (k + 1) hr' _ _ _ _ K hskip (skip_sound S fun t ht => hd k o t h0 ht) (by cases o.dst <;> simp [Act.put, hdf]) hQ⟩
def PostR (B : Base) (n : Nat) (Q : X → St → Prop) (e : Exit) (a : Act) (w : World) : Prop := ∃ x s, xOf e = some x ∧ Sim B n s a w ∧ a.defers = [] ∧ Q x s
theorem wp_soundR {P : Program} {E : Env} {B : Base} {n : Nat} (ok : EnvOk P E) (l m : Nat) :
  ∀ (c : Code) (s : St) (Q : X → St → Prop) (a : Act) (w : World), codeR n c = true → wp Ω E c s Q → Sim B n s a w → a.defers = [] → c.wpIn (Fence.wide.inRound l) m P (PostR B n Q) a w
 | .skip, s, Q, a, w, _, h, S, hd => wpIn_skip ⟨.normal, s, rfl, S, hd, h⟩
 | .region id ops draw, s, Q, a, w, hc, h, S, hd => by
  simp only [codeR, Bool.and_eq_true, Bool.not_eq_true'] at hc
  obtain ⟨rfl, hc'⟩ := hc
  refine wpIn_region ?_
  have := wpl_soundR ok l m (regOk_dst hc') (Q := PostR B n Q) ops.toList 0 (fun j => by simp) [] s a w _ h S hd (fun log s' a' w' hq S' hd' => ⟨.normal, s', rfl, S', hd', hq.2⟩)
  rw [List.range_eq_range', ← Array.length_toList]
  exact this
 | .seq c d, s, Q, a, w, hc, h, S, hd => by
  simp only [codeR, Bool.and_eq_true] at hc
  refine wpIn_seq (wpIn_mono (wp_soundR ok l m c s _ a w hc.1 h S hd) ?_)
  rintro e a' w' ⟨x, s', hx, S', hd', hq⟩
  cases e with
  | normal => cases hx; exact wp_soundR ok l m d s' Q a' w' hc.2 hq S' hd'
  | exit id => cases hx; exact ⟨_, s', rfl, S', hd', hq⟩
  | ret => cases hx; exact ⟨_, s', rfl, S', hd', hq⟩
  | _ => cases hx
 | .block id c, s, Q, a, w, hc, h, S, hd => by
  refine wpIn_block (wpIn_mono (wp_soundR ok l m c s _ a w hc h S hd) ?_)
  rintro e a' w' ⟨x, s', hx, S', hd', hq⟩
  cases e with
  | normal => cases hx; exact ⟨_, s', rfl, S', hd', hq⟩
  | exit j =>
   cases hx
   have hq' : if j = id then Q .normal s' else Q (.exit j) s' := hq
   simp only [Exit.inBlock]
   by_cases c : j = id
   ·rw [if_pos c] at hq' ⊢
    exact ⟨_, s', rfl, S', hd', hq'⟩
   ·rw [if_neg c] at hq' ⊢
    exact ⟨_, s', rfl, S', hd', hq'⟩
  | ret => cases hx; exact ⟨_, s', rfl, S', hd', hq⟩
  | _ => cases hx
theorem addBlk (a : Addr) (k : Nat) : (a.add k).block = a.block := by unfold Addr.add; split <;> rfl
theorem rep_elem {imm : Nat → Prop} {w : World} {xs : List D} {base : Option Addr} {len cap : Nat} (h : RepC imm w (.sl xs) (.slice base len cap)) (h1 : ∀ u, u ∈ xs → u.cells.length = 1 ∧ u.isAgg = false) :
  len = xs.length ∧ (xs ≠ [] → ∃ g off cs T fr, base = some ⟨g, off, none⟩ ∧ imm g ∧ w.heap[g]? = some (.cells cs T fr) ∧ ∀ k, k < xs.length → off + k < cs.size ∧ RepC imm w (xs.getD k .np) (cs.getD (off + k) undef)) := by
 cases h with
 | sl0 => exact ⟨rfl, fun q => absurd rfl q⟩
 | sl _ g off cap sz cs T fr hx hi hg hc hu hb hr =>
  refine ⟨rfl, fun _ => ⟨g, off, cs, T, fr, rfl, hi, hg, fun k hk => ?_⟩⟩
  have hz : sz = 1 := by
   obtain ⟨u, hu'⟩ := List.exists_mem_of_ne_nil xs hx
   rw [← hu u hu']
   exact (h1 u hu').1
  subst hz
  have a1 := hb k 0 hk Nat.one_pos
  have a2 := hr k 0 hk Nat.one_pos
  have hkm : xs.getD k .np ∈ xs := by rw [List.getD_eq_getElem?_getD, List.getElem?_eq_getElem hk]; exact List.getElem_mem hk
  rw [show off + (k * 1 + 0) = off + k by omega] at a1 a2
  rw [cells_flat (h1 _ hkm).2] at a2
  exact ⟨a1, a2⟩
theorem V_of_C {ι : Nat → Option Value} {imm : Nat → Prop} {w : World} {x : D} {v : Value} (h : RepC imm w x v) (hx : x.isAgg = false) : RepV ι imm w (.d x) v := by
 cases x <;> first | exact h | cases hx
theorem range_sound {P : Program} {E : Env} {B : Base} {n : Nat} (ok : EnvOk P E) (hB : BaseOk B E.m) {f : Operand} {ps : Array Tmp} {c d : Code} {s : St} {Q : X → St → Prop} {a : Act} {w : World}
  (hc : codeR n c = true) (hd : codeR n d = true) (hps : ∀ p, p ∈ ps.toList → p < n)
  (h : rangeG Ω E f ps (fun s' Q' => wp Ω E c s' fun e s1 => match e with
   | .normal => wp Ω E d s1 Q'
   | _ => False) s Q) (S : Sim B n s a w) : (Code.rangeFunc f ps c d).wp P (Post B n Q) a w := by
 unfold rangeG at h
 split at h
 rotate_left
 ·exact h.elim
 rename_i g j p q hf hpl
 obtain ⟨hbw, h⟩ := h
 split at h
 rotate_left
 ·exact h.elim
 rename_i x vt hj
 split at h
 rotate_left
 ·exact h.elim
 rename_i xs hx
 obtain ⟨huni, hlen, hR⟩ := h
 have hlen' : xs.length ≤ 4611686018427387904 := by
  have : (xs.length : Int) ≤ 4611686018427387904 := hlen
  omega
 obtain ⟨⟨hcall, hback⟩⟩ : Nonempty (Callable P g ∧ _) := ⟨ok.bw g hbw⟩
 obtain ⟨ι, imm, e, I, h1, h2, h3⟩ := S
 have hfv := ev_rep (a := a) h3 f
 rw [hf] at hfv
 obtain ⟨fs, cs, hv, hfs, hcs⟩ := hfv
 have hfs0 : fs = #[] := Array.eq_empty_of_size_eq_zero (by simpa using hfs.1)
 subst hfs0
 obtain ⟨Bs, hιj, hcv⟩ : ∃ g0, ι j = some (.pointer (some ⟨g0, 0, none⟩)) ∧ cs.getD 0 undef = .pointer (some ⟨g0, 0, none⟩) := hcs.2 0 (by simp)
 have hcs0 : cs = #[.pointer (some ⟨Bs, 0, none⟩)] := by
  have hs : cs.size = 1 := hcs.1
  apply Array.ext
  ·simpa using hs
  ·intro i q1 q2
   have : i = 0 := by simp at q2; omega
   subst this
   have : cs.getD 0 undef = cs[0] := by simp [Array.getD, q1]
   rw [← this, hcv]; rfl
 subst hcs0
 obtain ⟨vb, k1, g', vs, T, k2, k3, k4, k5⟩ := I.blk j _ hj
 rw [hιj] at k1; cases k1; cases k2
 have hx5 := (k5 0 (by simp)).1
 obtain ⟨imm1, I1, E1⟩ := Inv.freezeL (ids1 x) I
 have hrow : RepC imm1 w (.sl xs) (vs.getD 0 undef) := by
  have := toD1_rep (h := s.h) I1 (fun i hi l e z xs hx => freezeL_done s.h _ i hi l e z xs hx) (hx5.mono E1.ids (E1.immKeep I)) hx
  exact this
 have hj1 : ups s.h (freezeL s.h (ids1 x)) j = some (.var [x] vt) := by
  rcases freezeL_same s.h (ids1 x) j with q | ⟨l', e', z', xs', q1, q2⟩
  ·exact q.trans hj
  ·rw [hj] at q1; cases q1
 have st := I1.retire hj1 rfl (E1.ids _ _ hιj) rfl (w' := w) rfl (fun _ _ => rfl) rfl rfl rfl (B := .dead) rfl trivial
 obtain ⟨sv, hsv⟩ : ∃ sv, sv = vs.getD 0 undef := ⟨_, rfl⟩
 rw [← hsv] at hrow
 have hsl : ∃ base cap, sv = .slice base xs.length cap := by
  have hrow' : RepV ι imm1 w (.d (.sl xs)) sv := hrow
  obtain ⟨b, c, q, _⟩ := repSl hrow'
  exact ⟨b, c, q⟩
 obtain ⟨base, cap, rfl⟩ := hsl
 have hrow2 : RepC (fun k => imm1 k ∨ k = Bs) w (.sl xs) (.slice base xs.length cap) := hrow.mono fun k hk => ⟨.inl hk, rfl⟩
 obtain ⟨_, helem⟩ := rep_elem hrow2 huni
 have hBs : w.cell? ⟨Bs, 0, none⟩ = some (.slice base xs.length cap) := by
  have hs1 : 0 < vs.size := by rw [k4]; simp
  rw [cell_of_row w Bs 0 vs _ _ k3, hsv]; simp [Array.getD, hs1]
 have S0 : SimI B n ⟨s.sl, upd (ups s.h (freezeL s.h (ids1 x))) j (some .dead)⟩ a w (fun k => imm1 k ∨ k = Bs) :=
  ⟨ι, e.trans (E1.trans st.2), st.1, h1, h2, fun t => ((h3 t).evo I E1).evo I1 st.2⟩
 obtain ⟨ks, ids, kv, bs, ⟨olds, hk⟩, hround, hdone⟩ := hR.out
 obtain ⟨vs', bs', _, _, ⟨ev1, ev2⟩, S1⟩ := kept_imm hB hk S0
 rw [ev1, ev2] at S1
 obtain ⟨val, hval⟩ : ∃ val : Nat → Value, ∀ k, k < xs.length → ∃ ad, base = some ad ∧ w.cell? (ad.add k) = some (val k) ∧ RepC (fun k => imm1 k ∨ k = Bs) w (xs.getD k .np) (val k) := by
  by_cases hne : xs = []
  ·exact ⟨fun _ => undef, fun k hk => by rw [hne] at hk; simp at hk⟩
  ·obtain ⟨gb, off, cc, T', fr, q1, q2, q3, q4⟩ := helem hne
   refine ⟨fun k => cc.getD (off + k) undef, fun k hk => ⟨⟨gb, off, none⟩, q1, ?_, (q4 k hk).2⟩⟩
   rw [addr_add, cell_of_row w gb (off + k) cc T' fr q3]
   have := (q4 k hk).1
   simp [Array.getD, this]
 have hkeepB : ∀ ad, base = some ad → xs ≠ [] → (fun k => imm1 k ∨ k = Bs) ad.block := fun ad hb hne => by
  obtain ⟨gb, off, cc, T', fr, q1, q2, q3, q4⟩ := helem hne
  rw [q1] at hb; cases hb; exact q2
 refine (wpIn_wide (n := 2)).1 (wpIn_rangeFunc ?_)
 intro fn hfn
 obtain ⟨rec, hrec⟩ : ∃ rec : LoopState → Option Code → Loop, rec = fun st pe => { state := st, pending := pe, fn, tmps := a.tmps, params := ps, assign := c, body := d, defers := w.heap.size } := ⟨_, rfl⟩
 obtain ⟨W1, hW1⟩ : ∃ W1, (w.alloc (.deferred (some []))).alloc (.loop (rec .ready none)) = W1 := ⟨_, rfl⟩
 have hsz1 : W1.heap.size = w.heap.size + 2 := by rw [← hW1]; simp
 have hkeep1 : ∀ k, k < w.heap.size → W1.heap[k]? = w.heap[k]? := fun k hk => by
  rw [← hW1, alloc_old _ _ k (by simp; omega), alloc_old w _ k hk]
 have hL1 : W1.heap[w.heap.size + 1]? = some (.loop (rec .ready none)) := by
  rw [← hW1]; have := World.alloc_heap_new (w.alloc (.deferred (some []))) (.loop (rec .ready none)); rwa [World.size_alloc] at this
 have hK1 : W1.heap[w.heap.size]? = some (.deferred (some [])) := by
  rw [← hW1]; exact (alloc_old _ _ _ (by simp)).trans (World.alloc_heap_new w _)
 have hBlt : ∀ k, (imm1 k ∨ k = Bs) → k < w.heap.size := st.1.lt
 have hBw : B.w.heap.size ≤ w.heap.size := e.size
 let KK : LoopState → Heap → World → (Nat → Option Value) → (Nat → Prop) → Prop := fun ls hp W ι' im =>
  Evo B.ι B.imm B.h B.w ι' im hp W ∧ Inv ι' im hp W ∧ marks B a.defers W ∧ (∀ t, RepV ι' im W (lookL ks kv t) (a.tmps.getD t undef)) ∧ (∀ k, (imm1 k ∨ k = Bs) → im k ∧ W.heap[k]? = w.heap[k]?) ∧
  W.heap[w.heap.size + 1]? = some (.loop (rec ls none)) ∧ W.heap[w.heap.size]? = some (.deferred (some [])) ∧ w.heap.size + 2 ≤ W.heap.size
 have KKturn : ∀ (ls ls' : LoopState) (hp : Heap) (W : World) (ι' : Nat → Option Value) (im : Nat → Prop), KK ls hp W ι' im → KK ls' hp (W.putObj (w.heap.size + 1) (.loop (rec ls' none))) ι' (fun g => im g ∧ g ≠ w.heap.size + 1) ∧
   ∀ x v, RepV ι' im W x v → RepV ι' (fun g => im g ∧ g ≠ w.heap.size + 1) (W.putObj (w.heap.size + 1) (.loop (rec ls' none))) x v := fun ls ls' hp W ι' im hJ => by
  obtain ⟨e', I', q2, q3, hfix, hL, hK, hs⟩ := hJ
  have hsize : W.heap.size ≤ (W.putObj (w.heap.size + 1) (.loop (rec ls' none))).heap.size := by simp
  have hkp : ∀ g, g < W.heap.size → g ≠ w.heap.size + 1 → (W.putObj (w.heap.size + 1) (.loop (rec ls' none))).heap[g]? = W.heap[g]? := fun g _ hg => World.putObj_heap_other hg
  obtain ⟨It, hr⟩ := I'.turned hL rfl hsize hkp
  have et := e'.turned I' hL rfl (by omega) h2.1 hsize hkp rfl rfl rfl
  refine ⟨⟨et, It, ⟨q2.1, q2.2.1, fun dd hdd => ?_⟩, fun t => hr _ _ (q3 t), fun k hk => ⟨⟨(hfix k hk).1, by have := hBlt k hk; omega⟩, (hkp k (by have := hBlt k hk; omega) (by have := hBlt k hk; omega)).trans (hfix k hk).2⟩,
   World.putObj_heap_same (by omega), (World.putObj_heap_other (by omega)).trans hK, by simpa using hs⟩, hr⟩
  obtain ⟨D, z1, z2, z3⟩ := q2.2.2 dd hdd
  have hne : D ≠ w.heap.size + 1 := fun q => by subst q; rw [hL] at z3; cases z3
  exact ⟨D, z1, z2, (hkp D (Array.getElem?_eq_some_iff.1 z3).1 hne).trans z3⟩
 have KKevo : ∀ (ls : LoopState) (hp hp2 : Heap) (W W2 : World) (ι' ι2 : Nat → Option Value) (im im2 : Nat → Prop), KK ls hp W ι' im → Evo ι' im hp W ι2 im2 hp2 W2 → Inv ι2 im2 hp2 W2 → KK ls hp2 W2 ι2 im2 := fun ls hp hp2 W W2 ι' ι2 im im2 hJ e2 I2 => by
  obtain ⟨e', I', q2, q3, hfix, hL, hK, hs⟩ := hJ
  have hne : ∀ (g : Nat) (o : Obj), W.heap[g]? = some o → o.isCells = false → W2.heap[g]? = some o := fun g o hg ho =>
   (e2.keep g (Array.getElem?_eq_some_iff.1 hg).1 (I'.not_owned hg ho)).trans hg
  refine ⟨e'.trans e2, I2, q2.evo I' e2, fun t => (q3 t).evo I' e2, fun k hk => ?_, hne _ _ hL rfl, hne _ _ hK rfl, Nat.le_trans hs e2.size⟩
  obtain ⟨y1, y2⟩ := hfix k hk
  obtain ⟨y3, y4⟩ := e2.immKeep I' k y1
  exact ⟨y3, y4.trans y2⟩
 let J0 : LoopState → Nat → World → Prop := fun ls i W => ∃ ι' im, KK ls (lookH ids (bs i)) W ι' im
 have hJ1 : J0 .ready 0 W1 := by
  obtain ⟨ι', e', I', q1, q2, q3⟩ := S1
  have hm : ∀ k, (imm1 k ∨ k = Bs) → (imm1 k ∨ k = Bs) ∧ W1.heap[k]? = w.heap[k]? := fun k hk => ⟨hk, hkeep1 k (hBlt k hk)⟩
  have I1' : Inv ι' (fun k => imm1 k ∨ k = Bs) (lookH ids (bs 0)) W1 := ⟨fun id B hB => by
   obtain ⟨v, y1, y2⟩ := I'.blk id B hB
   exact ⟨v, y1, y2.mono (fun _ _ q => q) hm fun k hl hb => hkeep1 k (y2.lt hl hb)⟩, I'.non, I'.own, I'.inj, fun k hk => by have := I'.lt k hk; omega⟩
  refine ⟨ι', _, ⟨e'.ids, e'.immS, e'.immR, e'.own', fun k hk hn => (hkeep1 k (Nat.lt_of_lt_of_le hk e'.size)).trans (e'.keep k hk hn), by have := e'.size; omega, ?_, ?_, ?_⟩, I1',
   ⟨q2.1, q2.2.1, fun dd hdd => ?_⟩, fun t => (q3 t).mono (fun _ _ q => q) hm, hm, hL1, hK1, by omega⟩
  ·rw [← hW1]; exact e'.os
  ·rw [← hW1]; exact e'.tape
  ·rw [← hW1]; exact e'.output
  ·obtain ⟨D, z1, z2, z3⟩ := q2.2.2 dd hdd
   exact ⟨D, z1, z2, (hkeep1 D (Array.getElem?_eq_some_iff.1 z3).1).trans z3⟩
 have eg : ∀ args w, (callFunc g args).run P w = .ok (.enter g args) w := fun args w => by
  obtain ⟨fn0, y1, y2, y3⟩ := hcall
  have y2' : ¬ fn0.name = "runtime.NumGoroutine" := by simpa using y2
  obtain ⟨c0, hc0⟩ : ∃ c0, fn0.body = some c0 := by
   cases hb : fn0.body with
   | none => rw [hb] at y3; cases y3
   | some c0 => exact ⟨c0, rfl⟩
  simp [callFunc, y1, y2', hc0]
 refine ⟨w.heap.size + 1, [{ target := .collected w.heap.size, args := #[] }], W1, { target := .fn (.func g) #[.pointer (some ⟨Bs, 0, none⟩)], args := #[.func (.yield (w.heap.size + 1)) #[] #[]] }, W1, g,
  #[.func (.yield (w.heap.size + 1)) #[] #[], .pointer (some ⟨Bs, 0, none⟩)], W1, ?_, ?_, fun _ _ => trivial, ?_, fun h => (by cases h), ?_⟩
 ·rw [← hW1, hrec]; exact run_enterLoop_outer _ _ _ _ _
 ·simp only [resolve, hv]
  simp [go_sem]
 ·simp [invoke, go_sem, eg]
 ·refine (hback (w.heap.size + 1) Bs xs.length cap base val (J0 .ready) W1 hlen' ?_ ?_ hJ1).mono ?_
  ·-- one round
   intro k W hk hJ
   obtain ⟨ad, hb, hvk, hrk⟩ := hval k hk
   obtain ⟨ι', im, hKK⟩ := hJ
   obtain ⟨e', I', q2, q3, hfix, hL, hKk, hs⟩ := id hKK
   have hpsz : (#[.int .i64 (k : Int), val k] : Array Value).size = (rec .ready none).params.size := by
    rw [hrec]; show 2 = ps.size
    have : ps.toList.length = 2 := by rw [hpl]; rfl
    simpa using this.symm
   have hy := run_yield (P := P) (args := #[.int .i64 (k : Int), val k]) hL hpsz
   have hps2 : ps = #[p, q] := by
    have := congrArg List.toArray hpl
    simpa using this
   rw [hrec] at hy
   refine ⟨fn, _, c, d, hy, roundIn_of_wpIn hfn ?_⟩
   have hxk : xs[k]? = some (xs.getD k .np) := by rw [List.getD_eq_getElem?_getD, List.getElem?_eq_getElem hk]; rfl
   have hkm : xs.getD k .np ∈ xs := by rw [List.getD_eq_getElem?_getD, List.getElem?_eq_getElem hk]; exact List.getElem_mem hk
   have hrk' : RepC im W (xs.getD k .np) (val k) := hrk.mono hfix
   have hp : p < n := hps p (by rw [hpl]; simp)
   have hq : q < n := hps q (by rw [hpl]; simp)
   obtain ⟨tm, htm⟩ : ∃ tm : Array Value, tm = (ps.zip #[.int .i64 (k : Int), val k]).foldl (fun tmps (x : Tmp × Value) => tmps.setIfInBounds x.1 x.2) a.tmps := ⟨_, rfl⟩
   have htm' : tm = (a.tmps.setIfInBounds p (.int .i64 (k : Int))).setIfInBounds q (val k) := by rw [htm, hps2]; simp
   have hrt : ∀ t, RepV ι' im W (upd (upd (lookL ks kv) p (.d (.i .i64 (Ω .ci k)))) q (.d (xs.getD k .np)) t) (tm.getD t undef) := by
    have r1 := put_rep (a := a) (w := W) h1 q3 (d := some p) (fun t ht => by cases ht; exact hp) (x := .d (.i .i64 (Ω .ci k))) (v := .int .i64 (k : Int)) (RepC.i _ _)
    have r2 := put_rep (a := a.put (some p) (.int .i64 (k : Int))) (w := W) (n := n) (by simp [Act.put, h1]) r1 (d := some q) (fun t ht => by cases ht; exact hq) (x := .d (xs.getD k .np)) (v := val k) (V_of_C hrk' (huni _ hkm).2)
    rw [htm']
    exact r2
   have htmn : tm.size = n := by rw [htm']; simp [h1]
   have SR : Sim ⟨ι', im, lookH ids (bs (xs.length - 1 - k)), W⟩ n ⟨upd (upd (lookL ks kv) p (.d (.i .i64 (Ω .ci k)))) q (.d (xs.getD k .np)), lookH ids (bs (xs.length - 1 - k))⟩ { tmps := tm, defers := [] } W :=
    ⟨ι', im, .refl _ _ _ _, I', htmn, marks_nil I'.lt W, hrt⟩
   have hrd := hround k (xs.getD k .np) hk hxk
   show c.wpIn _ _ P _ { tmps := (ps.zip #[.int .i64 (k : Int), val k]).foldl (fun tmps (x : Tmp × Value) => tmps.setIfInBounds x.1 x.2) a.tmps, defers := [] } W
   rw [← htm]
   refine wpIn_mono (wp_soundR ok _ _ c _ _ _ _ hc hrd SR rfl) ?_
   rintro e1 a1 W2 ⟨x1, s1, hx1, S2, hd1, hq1⟩
   cases e1 with
   | normal =>
    cases hx1
    obtain ⟨ι2, im2, e2, I2, z1, z2, z3⟩ := S2
    have hK2 := KKevo _ _ _ _ _ _ _ _ _ hKK e2 I2
    obtain ⟨hK3, hr3⟩ := KKturn .ready .busy _ _ _ _ hK2
    have hb1 := run_beginRound (P := P) hK2.2.2.2.2.2.1 (by rw [hrec])
    refine ⟨_, hb1, ?_⟩
    have hrec2 : ({ rec .ready none with state := .busy } : Loop) = rec .busy none := by rw [hrec]
    rw [hrec2]
    have S3 : Sim ⟨ι2, fun g => im2 g ∧ g ≠ w.heap.size + 1, s1.h, W2.putObj (w.heap.size + 1) (.loop (rec .busy none))⟩ n s1 a1 (W2.putObj (w.heap.size + 1) (.loop (rec .busy none))) :=
     ⟨ι2, _, .refl _ _ _ _, hK3.2.1, z1, by rw [hd1]; exact marks_nil hK3.2.1.lt _, fun t => hr3 _ _ (z3 t)⟩
    refine wpIn_mono (wp_soundR ok _ _ d _ _ _ _ hd hq1 S3 hd1) ?_
    rintro e3 a3 W4 ⟨x3, s3, hx3, S4, hd3, hq3⟩
    cases e3 with
    | normal =>
     cases hx3
     obtain ⟨olds3, hk3⟩ := hq3
     obtain ⟨ι4, im4, e4, I4, _, _, _⟩ := S4
     have hK4 := KKevo _ _ _ _ _ _ _ _ _ hK3 e4 I4
     have he4 := run_endRound (P := P) none hK4.2.2.2.2.2.1
     obtain ⟨hK5, _⟩ := KKturn .busy .ready _ _ _ _ hK4
     have hrec4 : ({ rec .busy none with state := if (none : Option Code).isNone then .ready else .done, pending := none } : Loop) = rec .ready none := by rw [hrec]; rfl
     rw [hrec4] at he4
     refine ⟨_, _, he4, rfl, ?_⟩
     obtain ⟨y1, y2, y3, y4, y5, y6, y7, y8⟩ := hK5
     obtain ⟨vs5, bs5, _, _, ⟨rfl, rfl⟩, ι5, m1, m2, _, m4, m5⟩ := kept_imm hB hk3 (a := a) (w := W4.putObj (w.heap.size + 1) (.loop (rec .ready none))) (imm := fun g => im4 g ∧ g ≠ w.heap.size + 1) (B := B) (n := n) ⟨ι4, y1, y2, h1, y3, y4⟩
     exact ⟨ι5, _, m1, m2, m4, m5, y5, y6, y7, y8⟩
    | exit id => cases hx3; exact hq3.elim
    | ret => cases hx3; exact hq3.elim
    | _ => cases hx3
   | exit id => cases hx1; exact hq1.elim
   | ret => cases hx1; exact hq1.elim
   | _ => cases hx1
  ·-- what the function value reads
   intro i W hi hJ
   obtain ⟨ι', im, hKK⟩ := hJ
   have hfix := hKK.2.2.2.2.1
   refine ⟨?_, fun k hk => ?_⟩
   ·rw [World.cell?_of_block (w := w) (a := ⟨Bs, 0, none⟩) (hfix Bs (.inr rfl)).2]; exact hBs
   ·obtain ⟨ad, hb, hvk, _⟩ := hval k hk
    refine ⟨ad, hb, ?_⟩
    have hne : xs ≠ [] := fun q => by rw [q] at hk; simp at hk
    have := (hfix _ (hkeepB ad hb hne)).2
    rw [World.cell?_of_block (w := w) (a := ad.add k) (by rw [addBlk]; exact this)]
    exact hvk
  ·-- behind the loop
   rintro e2 W2 ⟨⟨v, rfl⟩, ι', im, hKK⟩
   have hel := run_endLoop (P := P) hKK.2.2.2.2.2.1 (by rw [hrec]; simp)
   have hrec5 : ({ rec .ready none with state := .exhausted } : Loop) = rec .exhausted none := by rw [hrec]
   rw [hrec5] at hel
   obtain ⟨⟨y1, y2, y3, y4, y5, y6, y7, y8⟩, _⟩ := KKturn .ready .exhausted _ _ _ _ hKK
   refine ⟨none, _, by rw [hrec] at hel ⊢; exact hel, .normal, stOf ks kv ids (bs xs.length), rfl, ⟨ι', _, y1, y2, h1, ⟨y3.1, ?_, ?_⟩, y4⟩, hdone⟩
   ·refine List.nodup_cons.2 ⟨fun hmem => ?_, y3.2.1⟩
    obtain ⟨D, z1, z2, z3⟩ := h2.2.2 _ hmem
    have := (Array.getElem?_eq_some_iff.1 z3).1
    injection z1 with z1 _
    injection z1 with z1
    omega
   ·intro dd hdd
    rcases List.mem_cons.1 hdd with rfl | hdd
    ·exact ⟨w.heap.size, rfl, hBw, y7⟩
    ·exact y3.2.2 dd hdd
theorem wp_sound {P : Program} {E : Env} {B : Base} {n : Nat} (ok : EnvOk P E) (hmix : P.follows .mixedOrders = true) (hB : BaseOk B E.m) :
  ∀ (c : Code) (s : St) (Q : X → St → Prop) (a : Act) (w : World), codeOk n c = true → wp Ω E c s Q → Sim B n s a w → c.wp P (Post B n Q) a w
 | .skip, s, Q, a, w, _, h, S => wp_skip ⟨.normal, s, rfl, S, h⟩
 | .exit id, s, Q, a, w, _, h, S => wp_exit ⟨.exit id, s, rfl, S, h⟩
 | .ret, s, Q, a, w, _, h, S => wp_ret ⟨.ret, s, rfl, S, h⟩
 | .region id ops draw, s, Q, a, w, hc, h, S => by
  have hc' : regOk n ops draw = true := hc
  cases draw with
  | false =>
   refine wp_region ?_
   have := wpl_sound ok (regOk_dst hc') (Q := Post B n Q) ops.toList 0 (fun j => by simp) [] s a w _ h S (fun log s' a' w' hq S' => ⟨.normal, s', rfl, S', hq.2⟩)
   rw [List.range_eq_range', ← Array.length_toList]
   exact this
  | true =>
   refine wp_region_any hmix ?_
   have h' : wpl Ω E true (1000 + 100 * id) ops ops.toList 0 [] s fun log s' => (if true then logOk (ancM ops.toList) log = true else True) ∧ Q .normal s' := h
   obtain ⟨tr, s', t1, t2, t3, t4⟩ := wpl_trc ops.toList 0 (fun j => by simp) _ s _ h'
   simp only [if_true, List.append_nil] at t3
   have hlen : tr.length = ops.size := by
    have := congrArg List.length t1
    simpa using this
   refine draw_sound ok (regOk_dst hc') (regOk_edges hc') (Q := Post B n Q) (s' := s') (fun a w S' => ⟨.normal, s', rfl, S', t4⟩) ops.size tr _ s a _ hlen t2 S.drew (by simp) ?_ (fun i hi => ?_) (fun i hi hl => ?_) (fun x y hx hy hxy hanc => ?_)
   ·rw [t1]; exact List.pairwise_lt_range'
   ·rw [t1]
    simp [Array.getD, hi]
   ·simp [Array.getD, hi] at hl
   ·have h2 : y.1 ∉ (anc ops.toList).getD x.1 [] := fun q => by
     have := anc_lt ops.toList (regOk_edges hc') (x.1 + 1) x.1 (Nat.lt_succ_self _) y.1 q
     omega
    have log : ∀ u v, u ∈ tr → v ∈ tr → u.1 ≠ v.1 → u.1 ∉ (anc ops.toList).getD v.1 [] → v.1 ∉ (anc ops.toList).getD u.1 [] → ∀ i, i ∈ wrOf u.2 → i ∉ rdOf v.2 := fun u v hu hv hne q1 q2 i hi hi' => by
     have k1 := List.all_eq_true.1 t3 ⟨u.1, rdOf u.2, wrOf u.2⟩ (by simp only [List.mem_reverse, List.mem_map]; exact ⟨u, hu, rfl⟩)
     simp only [Bool.or_eq_true, List.isEmpty_iff] at k1
     rcases k1 with k1 | k1
     ·have k1' : wrOf u.2 = [] := k1
      rw [k1'] at hi; cases hi
     ·have k2 := List.all_eq_true.1 k1 ⟨v.1, rdOf v.2, wrOf v.2⟩ (by simp only [List.mem_reverse, List.mem_map]; exact ⟨v, hv, rfl⟩)
      simp only [Bool.or_eq_true, beq_iff_eq, Bool.not_eq_true'] at k2
      rcases k2 with ((k | k) | k) | k
      ·exact hne k.symm.symm
      ·have : meets (wrOf u.2) (rdOf v.2) = true := by
        simp only [meets, List.any_eq_true]
        exact ⟨i, hi, by simpa using hi'⟩
       rw [this] at k; cases k
      ·exact q1 (ancM_ok _ _ _ k)
      ·exact q2 (ancM_ok _ _ _ k)
    refine ⟨fun ox oy hox hoy => regOk_apart hc' (by omega) hanc h2 hox hoy, log x y hx hy (by omega) hanc h2, log y x hy hx (by omega) h2 hanc⟩
 | .seq c d, s, Q, a, w, hc, h, S => by
  simp only [codeOk, Bool.and_eq_true] at hc
  refine wp_seq (wp_mono (wp_sound ok hmix hB c s _ a w hc.1 h S) ?_)
  rintro e a' w' ⟨x, s', hx, S', hq⟩
  cases e with
  | normal => cases hx; exact wp_sound ok hmix hB d s' Q a' w' hc.2 hq S'
  | exit id => cases hx; exact ⟨_, s', rfl, S', hq⟩
  | ret => cases hx; exact ⟨_, s', rfl, S', hq⟩
  | _ => cases hx
 | .cond c x y, s, Q, a, w, hc, h, S => by
  simp only [codeOk, Bool.and_eq_true] at hc
  simp only [wp] at h
  split at h
  ·rename_i t ht
   have hev : a.eval c = .bool t := by
    obtain ⟨ι, imm, _, _, _, _, h3⟩ := S
    have := ev_rep h3 c
    rw [ht] at this
    exact repB this
   exact wp_cond_split hev (fun q => wp_sound ok hmix hB x s Q a w hc.1 (by subst q; rw [BrG_eq] at h; exact h) S) (fun q => wp_sound ok hmix hB y s Q a w hc.2 (by subst q; rw [BrG_eq] at h; exact h) S)
  ·exact h.elim
 | .block id c, s, Q, a, w, hc, h, S => by
  refine wp_block (wp_mono (wp_sound ok hmix hB c s _ a w hc h S) ?_)
  rintro e a' w' ⟨x, s', hx, S', hq⟩
  cases e with
  | normal => cases hx; exact ⟨_, s', rfl, S', hq⟩
  | exit j =>
   cases hx
   have hq' : if j = id then Q .normal s' else Q (.exit j) s' := hq
   simp only [Exit.inBlock]
   by_cases c : j = id
   ·rw [if_pos c] at hq' ⊢
    exact ⟨_, s', rfl, S', hq'⟩
   ·rw [if_neg c] at hq' ⊢
    exact ⟨_, s', rfl, S', hq'⟩
  | ret => cases hx; exact ⟨_, s', rfl, S', hq⟩
  | _ => cases hx
 | .loop c, s, Q, a, w, hc, h, S => by
  obtain ⟨σ, ks, ids, fv, fb, I, μ, ⟨bl, x0, olds, hI, hk⟩, hround⟩ := h
  obtain ⟨s0, S0, hk⟩ : ∃ s0, Sim B n s0 a w ∧ kept E.m ks (ids x0) olds s0 fun a b => a = fv x0 ∧ b = fb x0 := by
   unfold keptB at hk
   split at hk
   ·rename_i s0 hb; exact ⟨s0, bear_sound bl hb S, hk⟩
   ·exact hk.elim
  obtain ⟨vs, bs, l1, l2, ⟨rfl, rfl⟩, S1⟩ := kept_sound hB hk S0
  refine wp_loop_ghost (fun k a w => ∃ x, I x ∧ μ x = k ∧ Sim B n (stOf ks (fv x) (ids x) (fb x)) a w) (μ x0) ⟨x0, hI, rfl, S1⟩ ?_
  rintro k a1 w1 ⟨y, hI, rfl, S1⟩
  refine wp_mono (wp_sound ok hmix hB c _ _ a1 w1 hc (hround y hI) S1) ?_
  rintro e a' w' ⟨x, s', hx, S', hq⟩
  cases e with
  | normal =>
   cases hx
   obtain ⟨z, olds', hI', hμ, hk'⟩ := hq
   obtain ⟨vs', bs', l1', l2', ⟨rfl, rfl⟩, S2⟩ := kept_sound hB hk' S'
   exact ⟨_, hμ, z, hI', rfl, S2⟩
  | exit j => cases hx; exact ⟨_, s', rfl, S', hq⟩
  | ret => cases hx; exact ⟨_, s', rfl, S', hq⟩
  | _ => cases hx
 | .refuse _, s, Q, a, w, hc, h, S => h.elim
 | .rangeFunc f ps c d, s, Q, a, w, hc, h, S => by
  simp only [codeOk, Bool.and_eq_true] at hc
  exact range_sound ok hB hc.1.1 hc.1.2 (fun p hp => by have := List.all_eq_true.1 hc.2 p hp; simpa using this) h S
end Go.K
end
section
namespace Go.K
open Go
section
variable {ι : Nat → Option Value} {imm : Nat → Prop} {w : World} {P : Program} {tt : TypeId → Option TInfo}
theorem resOne_ok (ht : TTok P tt) {s : St} (I : Inv ι imm s.h w) {tmps : Array Value} (hr : ∀ t, RepV ι imm w (s.sl t) (tmps.getD t undef)) {rv : ResultVar} {v : V} (h : resOne tt s rv = some v) :
  ∃ x, (match rv with | .tmp t => pure (tmps.getD t undef) | .cell a t => do loadVar t (← asAddr (tmps.getD a undef)) : Sem Value).run P w = .ok x w ∧ RepV0 ι imm w v x := by
 cases rv with
 | tmp t =>
  refine ⟨tmps.getD t undef, rfl, ?_⟩
  have := hr t
  simp only [resOne] at h
  generalize s.sl t = q at h this
  cases q <;> first | (cases h; done) | (cases h; exact this)
 | cell a T =>
  simp only [resOne] at h
  split at h
  ·rename_i i j off hT hs
   have hTT := ht _ _ hT
   split at h
   ·rename_i cs vt hj
    split at h
    ·rename_i hc
     cases h
     have h1 := hr a
     rw [hs] at h1
     obtain ⟨g, q1, q2⟩ := h1
     obtain ⟨v', h4, g', vs, T', h5, h6, h7, h8⟩ := I.blk j _ hj
     rw [q1] at h4; cases h4; cases h5
     have hone : isAggT i.und = false → i.size = 1 := fun q => hc.2.resolve_left (by rw [q]; decide)
     have hrun := run_loadVar_at hTT w (off := off) h6 (by omega) hone
     have hrep := shape_take (ι := ι) h7 h8 hc.1 hone
     refine ⟨_, (by simp only [q2, asAddr, Sem.run_bind, Sem.run_pure, Result.andThen_ok, hrun]; rfl), ?_⟩
     cases ha : isAggT i.und with
     | true => rw [ha] at hrep; exact hrep
     | false =>
      rw [ha] at hrep
      generalize hq : shapeV false ((cs.drop off).take i.size) = q at hrep ⊢
      cases q with
      | tup l =>
       exfalso
       have hn := hone ha
       rw [hn] at hq
       have hlt : off < cs.length := by omega
       have h9 : shapeV false ((cs.drop off).take 1) = cs.getD off .junk := by
        simp [shapeV, List.headD, List.getD, hlt, List.take_one, List.head?_drop]
       rw [h9] at hq
       have := (h8 off hlt).1
       rw [hq] at this
       exact this
      | _ => exact hrep
    ·cases h
   ·cases h
  ·cases h
theorem resList_ok (ht : TTok P tt) {s : St} (I : Inv ι imm s.h w) {tmps : Array Value} (hr : ∀ t, RepV ι imm w (s.sl t) (tmps.getD t undef)) : ∀ (l : List ResultVar) (vs : List V), resList tt s l = some vs →
  ∃ xs : List Value, (l.mapM fun (x : ResultVar) => (match x with | .tmp t => pure (tmps.getD t undef) | .cell a t => do loadVar t (← asAddr (tmps.getD a undef)) : Sem Value)).run P w = .ok xs w ∧ xs.length = vs.length ∧
   ∀ j, j < vs.length → RepV0 ι imm w (vs.getD j .junk) (xs.getD j undef)
 | [], vs, h => by cases h; exact ⟨[], rfl, rfl, fun j hj => absurd hj (Nat.not_lt_zero _)⟩
 | r :: l, vs, h => by
  simp only [resList] at h
  split at h
  ·rename_i v vs' h1 h2
   cases h
   obtain ⟨x, k1, k2⟩ := resOne_ok ht I hr h1
   obtain ⟨xs, k3, k4, k5⟩ := resList_ok ht I hr l vs' h2
   refine ⟨x :: xs, ?_, by simp [k4], fun j hj => ?_⟩
   ·rw [List.mapM_cons, Sem.run_bind, k1]
    simp only [Result.andThen_ok, Sem.run_bind, k3, Sem.run_pure]
   ·cases j with
    | zero => exact k2
    | succ j => exact k5 j (by simpa using hj)
  ·cases h
theorem resOf_ok (ht : TTok P tt) {s : St} (I : Inv ι imm s.h w) {fn : Func} {tmps : Array Value} (hr : ∀ t, RepV ι imm w (s.sl t) (tmps.getD t undef)) {r : V} (h : resOf tt s fn.results.toList = some r) :
  ∃ v, (results fn tmps).run P w = .ok v w ∧ RepV ι imm w r v := by
 have key : ∃ vs, resList tt s fn.results.toList = some vs ∧ ((∃ v, vs = [v] ∧ r = v) ∨ (vs.length ≠ 1 ∧ r = .tup vs)) := by
  unfold resOf at h
  split at h
  ·rename_i v hv; cases h; exact ⟨_, hv, .inl ⟨_, rfl, rfl⟩⟩
  ·rename_i vs hne hv; cases h
   refine ⟨vs, hv, .inr ⟨fun q => ?_, rfl⟩⟩
   obtain ⟨v, rfl⟩ := List.length_eq_one_iff.1 q
   exact hne v rfl
  ·cases h
 obtain ⟨vs, hvs, hcase⟩ := key
 obtain ⟨xs, h1, h2, h3⟩ := resList_ok ht I hr _ _ hvs
 have hm : (fn.results.mapM fun (x : ResultVar) => (match x with | .tmp t => pure (tmps.getD t undef) | .cell a t => do loadVar t (← asAddr (tmps.getD a undef)) : Sem Value)).run P w = .ok xs.toArray w := by
  have : fn.results.mapM (fun (x : ResultVar) => (match x with | .tmp t => pure (tmps.getD t undef) | .cell a t => do loadVar t (← asAddr (tmps.getD a undef)) : Sem Value)) = (do
    let l ← fn.results.toList.mapM fun (x : ResultVar) => (match x with | .tmp t => pure (tmps.getD t undef) | .cell a t => do loadVar t (← asAddr (tmps.getD a undef)) : Sem Value)
    pure l.toArray) := by
   rw [Array.mapM_eq_mapM_toList]
   rfl
  rw [this, Sem.run_bind, h1]
  rfl
 have hres : (results fn tmps).run P w = .ok (if h : xs.toArray.size = 1 then xs.toArray[0] else .tuple xs.toArray) w := by
  unfold results
  rw [Sem.run_bind]
  erw [hm]
  rfl
 refine ⟨_, hres, ?_⟩
 rcases hcase with ⟨v, rfl, rfl⟩ | ⟨hne, rfl⟩
 ·have hl : xs.length = 1 := h2
  obtain ⟨x, rfl⟩ := List.length_eq_one_iff.1 hl
  have := h3 0 (by simp)
  exact V_of_V0 this
 ·have hl : ¬ xs.toArray.size = 1 := by simp; omega
  rw [dif_neg hl]
  exact ⟨xs.toArray, rfl, by simp [h2], fun j hj => by
   have := h3 j hj
   have hj' : j < xs.length := by omega
   have e : xs.toArray.getD j undef = xs.getD j undef := by simp [Array.getD, hj', List.getD]
   rw [e]; exact this⟩
theorem finV_ok {h : Heap} {s : St} (I : Inv ι imm s.h w) {r r' : V} {v : Value} (hr : RepV ι imm w r v) (hf : finV Ω s.h r = some r') :
  ∃ imm' h1, Inv ι imm' h1 w ∧ Evo ι imm s.h w ι imm' h1 w ∧ RepV (fun _ => none) imm' w r' v := by
 have one : ∀ (y : V) (x : Value) (d : D) (L : List Nat) (imm' : Nat → Prop) (I' : Inv ι imm' (ups s.h (freezeL s.h L)) w) (e : Evo ι imm s.h w ι imm' (ups s.h (freezeL s.h L)) w), (∀ i, i ∈ idsOf y → i ∈ L) → RepV ι imm w y x → toD Ω s.h y = some d → RepD imm' w d x :=
  fun y x d L imm' I' e hL hy hd => toD_rep I' (fun i hi l e z xs hx => freezeL_done s.h L i (hL i hi) l e z xs hx) (hy.evo I e) hd
 by_cases ht : ∃ cs, r = .tup cs
 ·obtain ⟨cs, rfl⟩ := ht
  simp only [finV] at hf
  split at hf
  ·rename_i ds hds
   cases hf
   obtain ⟨imm', I', e⟩ := Inv.freezeL (cs.flatMap idsOf) I
   obtain ⟨d1, d2⟩ := toDs_ok _ _ hds
   obtain ⟨vs, h1, h2, h3⟩ := hr
   refine ⟨imm', _, I', e, vs, h1, by simp; omega, fun j hj => ?_⟩
   have hj' : j < ds.length := by simpa using hj
   have hjc : j < cs.length := by omega
   have e1 : (ds.map V.d).getD j .junk = .d (ds.getD j .np) := by simp [List.getD, hj']
   rw [e1]
   refine one (cs.getD j .junk) _ _ _ _ I' e (fun i hi => List.mem_flatMap.2 ⟨cs.getD j .junk, ?_, hi⟩) (V_of_V0 (h3 j hjc)) (d2 j hjc)
   rw [List.getD_eq_getElem?_getD, List.getElem?_eq_getElem hjc]
   exact List.getElem_mem hjc
  ·cases hf
 ·have hf' : ∃ d, toD Ω s.h r = some d ∧ r' = .d d := by
   unfold finV at hf
   split at hf
   ·exact absurd ⟨_, rfl⟩ ht
   ·split at hf
    ·rename_i d hd; cases hf; exact ⟨d, hd, rfl⟩
    ·cases hf
  obtain ⟨d, hd, rfl⟩ := hf'
  obtain ⟨imm', I', e⟩ := Inv.freezeL (idsOf r) I
  exact ⟨imm', _, I', e, one r v d _ _ I' e (fun i hi => hi) hr hd⟩
end
theorem argS_rep {ι : Nat → Option Value} {imm : Nat → Prop} {w : World} {args : List V} {vs : Array Value} {k : Nat} (hs : vs.size = args.length) (h : ∀ j, j < args.length → RepV ι imm w (args.getD j .junk) (vs.getD j undef)) :
  ∀ t, RepV ι imm w (argS args t) ((vs ++ Array.replicate k undef).getD t undef) := fun t => by
 by_cases c : t < args.length
 ·have := h t c
  have hv : t < vs.size := by omega
  have e : (vs ++ Array.replicate k undef).getD t undef = vs.getD t undef := by
   simp [Array.getD_eq_getD_getElem?, Array.getElem?_append, hv]
  rw [e]; exact this
 ·have : argS args t = .junk := by
   unfold argS; rw [List.getD_eq_getElem?_getD, List.getElem?_eq_none (by omega)]; rfl
  rw [this]; trivial
theorem Sim.leaves {P : Program} {B : Base} {n m : Nat} {s : St} {fn : Func} {R : Ending → World → Prop} : ∀ (ds : List Deferred) {a : Act} {w : World}, a.defers = ds → Sim B n s a w →
  (∀ w', Sim B n s { a with defers := [] } w' → ∃ v, (results fn a.tmps).run P w' = .ok v w' ∧ R (.returned v) w') → LeavesInM Fence.wide m P fn a.tmps R ds .returning w
 | [], a, w, hd, S, h => h w (by
   have : { a with defers := [] } = a := by cases a; simp at hd; subst hd; rfl
   rw [this]; exact S)
 | d :: ds, a, w, hd, S, h => by
  obtain ⟨ι, imm, e, I, h1, h2, h3⟩ := S
  rw [hd] at h2
  obtain ⟨D, rfl, hB, hD⟩ := h2.2.2 d List.mem_cons_self
  have hlt : D < w.heap.size := (Array.getElem?_eq_some_iff.1 hD).1
  have hsize : w.heap.size ≤ (w.putObj D (.deferred none)).heap.size := by simp
  have hkeep : ∀ g, g < w.heap.size → g ≠ D → (w.putObj D (.deferred none)).heap[g]? = w.heap[g]? := fun g _ hg => World.putObj_heap_other hg
  obtain ⟨I', hr⟩ := I.turned hD rfl hsize hkeep
  have e' := e.turned I hD rfl hB h2.1 hsize hkeep rfl rfl rfl
  obtain ⟨n1, n2⟩ := List.nodup_cons.1 h2.2.1
  refine ⟨by simp, .inl ⟨D, _, rfl, run_takeDeferred hD, ?_⟩⟩
  exact Sim.leaves (a := { a with defers := ds }) ds rfl ⟨ι, _, e', I', h1, ⟨h2.1, n2, fun d' hd' => by
   obtain ⟨D', q1, q2, q3⟩ := h2.2.2 d' (List.mem_cons_of_mem _ hd')
   have hne : D' ≠ D := fun q => by subst q; subst q1; exact n1 hd'
   exact ⟨D', q1, q2, (hkeep D' (Array.getElem?_eq_some_iff.1 q3).1 hne).trans q3⟩⟩, fun t => hr _ _ (h3 t)⟩ h
theorem good_of_wpF {P : Program} {E : Env} {f : FuncId} {fn : Func} {args : List V} {r : V} (ok : EnvOk P E) (hmix : P.follows .mixedOrders = true) (hm : E.m = 0) (hf : P.funcs[f]? = some fn) (hn : (fn.name == "runtime.NumGoroutine") = false)
  (hc : (match fn.body with | some c => codeOk fn.ntmps c | none => false) = true) (ha : args.length ≤ fn.ntmps) (h : wpF Ω E fn args (fun x => x = r)) : Good P f args [] r [] := by
 unfold wpF at h
 cases hb : fn.body with
 | none => rw [hb] at hc; cases hc
 | some c =>
  rw [hb] at h hc
  simp only at h hc
  refine .inl ⟨⟨fn, hf, hn, by rw [hb]; rfl⟩, fun ι imm w vs I hs hr => ?_⟩
  have h0 : mkH [] = fun _ => none := by funext id; exact mkH_nil id
  let B : Base := ⟨ι, imm, mkH [], w⟩
  have hB : BaseOk B E.m := ⟨by omega, fun id v hv => by
   have : ι id = none := I.non id (mkH_nil id)
   have hv' : ι id = some v := hv
   rw [this] at hv'; cases hv'⟩
  refine callsIn_wide (n := 0).1 (callsIn_of_wp_marks hf hb trivial (wpIn_mono (wpIn_wide.2 (wp_sound (B := B) (n := fn.ntmps) ok hmix hB c _ _ _ w hc h ⟨ι, imm, by rw [← h0]; exact .refl _ _ _ _, by rw [← h0]; exact I, by simp; omega, marks_nil I.lt w, argS_rep hs hr⟩)) ?_))
  rintro e a' w' ⟨x, s', hx, S', hq⟩
  have fin : (match resOf E.tt s' fn.results.toList with
    | some r0 => match finV Ω s'.h r0 with
     | some r' => r' = r
     | none => False
    | none => False) → ∀ w', Sim B fn.ntmps s' { a' with defers := [] } w' → ∃ v, (results fn a'.tmps).run P w' = .ok v w' ∧ ∃ v0 ι' imm', Ending.returned v = .returned v0 ∧ Evo ι imm (mkH []) w ι' imm' (mkH []) w' ∧ Inv ι' imm' (mkH []) w' ∧ RepV ι' imm' w' r v0 := fun hq w' S' => by
   obtain ⟨ι1, imm1, e1, I1, q1, q2, q3⟩ := S'
   split at hq
   ·rename_i r0 hr0
    split at hq
    ·rename_i r' hr'
     subst hq
     obtain ⟨v, k1, k2⟩ := resOf_ok ok.tt I1 (fn := fn) q3 hr0
     obtain ⟨imm2, h2, I2, e2, k3⟩ := finV_ok (h := s'.h) I1 k2 hr'
     have e3 := e1.trans e2
     refine ⟨v, k1, v, fun _ => none, imm2, rfl, ⟨fun id v hv => ?_, e3.immS, e3.immR, fun g o => absurd o (not_owned_nil _ g), e3.keep, e3.size, e3.os, e3.tape, e3.output⟩,
      ⟨fun id B hid => (by rw [mkH_nil] at hid; cases hid), fun _ _ => rfl, fun g o => absurd o (not_owned_nil _ g), fun a b A B x y g h1 => (by rw [mkH_nil] at h1; cases h1), I2.lt⟩, k3⟩
     have : ι id = none := I.non id (mkH_nil id)
     rw [this] at hv; cases hv
    ·exact hq.elim
   ·exact hq.elim
  cases e with
  | normal => cases hx; exact Sim.leaves _ rfl S' (fin hq)
  | ret => cases hx; exact Sim.leaves _ rfl S' (fin hq)
  | exit id => cases hx; exact hq.elim
  | _ => cases hx
theorem good_of_wpF2 {P : Program} {E : Env} {f : FuncId} {fn : Func} {args : List V} {bs bs' : List Blk} {r : V} (ok : EnvOk P E) (hmix : P.follows .mixedOrders = true) (hm : E.m = bs.length) (hm2 : bs.length ≤ 1000) (hf : P.funcs[f]? = some fn)
  (hn : (fn.name == "runtime.NumGoroutine") = false) (hc : (match fn.body with | some c => codeOk fn.ntmps c | none => false) = true) (ha : args.length ≤ fn.ntmps) (h : wpF2 Ω E fn args bs (fun x b => x = r ∧ b = bs')) : Good P f args bs r bs' := by
 unfold wpF2 at h
 cases hb : fn.body with
 | none => rw [hb] at hc; cases hc
 | some c =>
  rw [hb] at h hc
  simp only at h hc
  refine .inl ⟨⟨fn, hf, hn, by rw [hb]; rfl⟩, fun ι imm w vs I hs hr => ?_⟩
  let B : Base := ⟨ι, imm, mkH bs, w⟩
  have hdom : ∀ id v, ι id = some v → id < bs.length := fun id v hv => by
   rcases Nat.lt_or_ge id bs.length with q | q
   ·exact q
   ·have : ι id = none := I.non id (by simp only [mkH]; exact List.getElem?_eq_none q)
    rw [this] at hv; cases hv
  have hB : BaseOk B E.m := ⟨by omega, fun id v hv => by have := hdom id v hv; omega⟩
  refine callsIn_wide (n := 0).1 (callsIn_of_wp_marks hf hb trivial (wpIn_mono (wpIn_wide.2 (wp_sound (B := B) (n := fn.ntmps) ok hmix hB c _ _ _ w hc h ⟨ι, imm, .refl _ _ _ _, I, by simp; omega, marks_nil I.lt w, argS_rep hs hr⟩)) ?_))
  rintro e a' w' ⟨x, s', hx, S', hq⟩
  have fin : (match resOf E.tt s' fn.results.toList with
    | some r0 => ∃ news, nodupB (List.range bs.length ++ news) = true ∧ match getAll s'.h (List.range bs.length ++ news) with
     | some b => ren (fore (List.range bs.length ++ news)) r0 = r ∧ b.map (renB (fore (List.range bs.length ++ news))) = bs'
     | none => False
    | none => False) → ∀ w', Sim B fn.ntmps s' { a' with defers := [] } w' → ∃ v, (results fn a'.tmps).run P w' = .ok v w' ∧ ∃ v0 ι' imm', Ending.returned v = .returned v0 ∧ Evo ι imm (mkH bs) w ι' imm' (mkH bs') w' ∧ Inv ι' imm' (mkH bs') w' ∧ RepV ι' imm' w' r v0 := fun hq w' S' => by
   obtain ⟨ι1, imm1, e1, I1, q1, q2, q3⟩ := S'
   split at hq
   ·rename_i r0 hr0
    obtain ⟨news, hnd, hq⟩ := hq
    split at hq
    ·rename_i b hb'
     obtain ⟨rfl, rfl⟩ := hq
     obtain ⟨v, k1, k2⟩ := resOf_ok ok.tt I1 (fn := fn) q3 hr0
     have hn2 := nodupB_ok _ hnd
     obtain ⟨b1, b2⟩ := getAll_ok _ _ hb'
     have hlen : b.length = (List.range bs.length ++ news).length := b1
     obtain ⟨I2, own, hι⟩ := I1.renamed (ids := List.range (List.range bs.length ++ news).length) (h' := mkH (b.map (renB (fore (List.range bs.length ++ news))))) hb' List.nodup_range hn2 (by simp) (f := fore (List.range bs.length ++ news)) (fun o k hk => by
       have := fore_some hk
       exact ⟨k, by rw [List.getElem?_range (List.getElem?_eq_some_iff.1 this).1], this⟩) (fun k B0 hB0 => by
       simp only [mkH, List.getElem?_map] at hB0
       cases hk : b[k]? with
       | none => rw [hk] at hB0; cases hB0
       | some B1 =>
        rw [hk] at hB0; cases hB0
        have hlt := (List.getElem?_eq_some_iff.1 hk).1
        exact ⟨k, B1, by rw [List.getElem?_range (by omega)], hk, rfl⟩) (fun k hk hmem => by
       have hlt : k < (List.range bs.length ++ news).length := by simpa using hmem
       simp only [mkH, List.getElem?_map] at hk
       rw [List.getElem?_eq_getElem (by omega : k < b.length)] at hk
       cases hk)
     refine ⟨v, k1, v, _, imm1, rfl, ⟨fun id v hv => ?_, e1.immS, e1.immR, fun g o => e1.own' g (own g o), e1.keep, e1.size, e1.os, e1.tape, e1.output⟩, I2, ren_rep hι k2⟩
     have hlt := hdom id v hv
     have h3 : (List.range bs.length ++ news)[id]? = some id := by
      rw [List.getElem?_append_left (by simpa using hlt), List.getElem?_range hlt]
     show (backL _ _ id).bind ι1 = some v
     have hl2 := (List.getElem?_eq_some_iff.1 h3).1
     rw [backL_at _ _ id id id List.nodup_range (by rw [List.getElem?_range hl2]) h3]
     exact e1.ids id v hv
    ·exact hq.elim
   ·exact hq.elim
  cases e with
  | normal => cases hx; exact Sim.leaves _ rfl S' (fin hq)
  | ret => cases hx; exact Sim.leaves _ rfl S' (fin hq)
  | exit id => cases hx; exact hq.elim
  | _ => cases hx
def envOf (P : Program) (tt : TypeId → Option TInfo) (md : FuncId → Bool) (m : Nat) (ro : FuncId → Bool) (ty : TypeId → Bool) (la : TypeId → TypeId → Bool) (ne bw : FuncId → Bool) : Env :=
 ⟨tt, fun g ds r => Good P g (ds.map V.d) [] r [], fun g args bs r bs' => Good P g args bs r bs', md, m, ro, ty, la, ne, bw⟩
theorem envOf_ok {P : Program} {tt : TypeId → Option TInfo} {la : TypeId → TypeId → Bool} {ne bw : FuncId → Bool} (ht : TTok P tt) (hla : ∀ T t, la T t = true → liesAt P P.depth T 1 0 t 1 = true)
  (hne : ∀ g, ne g = true → ∀ (v : Value) (w : World), (callFunc g #[v]).run P w = .ok (.value v) w) (hbw : ∀ g, bw g = true → BackOk P g) (md : FuncId → Bool) (m : Nat) (ro : FuncId → Bool) (ty : TypeId → Bool) : EnvOk P (envOf P tt md m ro ty la ne bw) :=
 ⟨ht, fun _ _ _ h => h, fun _ _ _ _ _ h => h, hla, hne, hbw⟩
def NatFn (P : Program) (f : FuncId) (e : Array Value → Sem Value) : Prop :=
 ∃ fn, P.funcs[f]? = some fn ∧ (fn.name == "runtime.NumGoroutine") = false ∧ fn.body.isNone = true ∧ Extern.findNext fn = none ∧ Extern.find fn = some e
theorem good_of_nat {P : Program} {f : FuncId} {e : Array Value → Sem Value} (hn : NatFn P f e) {ds : List D} {x : D}
  (h : ∀ (imm : Nat → Prop) (w : World) (vs : Array Value), vs.size = ds.length → (∀ j, j < ds.length → RepD imm w (ds.getD j .np) (vs.getD j undef)) → ∃ v, (e vs).run P w = .ok v w ∧ RepD imm w x v) : Good P f (ds.map V.d) [] (.d x) [] := by
 obtain ⟨fn, hf, hname, hb, hn, he⟩ := hn
 refine .inr ⟨rfl, rfl, fun fn' hf' => ?_, ds, x, rfl, rfl, fun imm w vs hs hr => ?_⟩
 ·rw [hf] at hf'; cases hf'; exact hb
 ·obtain ⟨v, h1, h2⟩ := h imm w vs hs hr
  refine ⟨v, ?_, h2⟩
  rw [run_callFunc_extern hf hname hb hn he, h1]
  rfl
theorem ne_same {P : Program} {g : FuncId} {fn : Func} (hf : P.funcs[g]? = some fn) (hname : (fn.name == "runtime.NumGoroutine") = false) (hb : fn.body.isNone = true) (hn : Extern.findNext fn = none) (he : Extern.find fn = some Extern.AbiNoEscape.same)
  (v : Value) (w : World) : (callFunc g #[v]).run P w = .ok (.value v) w := by
 rw [run_callFunc_extern hf hname hb hn he]
 rfl
end Go.K
end
