/-
  K, part 17: regions that draw their order: one order is as good as another.
-/
import Derived.Test.YtlolgojfeijjhaaGreatDoorQaf
namespace Go.K
open Go
set_option linter.unusedSectionVars false
set_option linter.unusedVariables false
set_option linter.unusedSimpArgs false
section
variable {E : Env} {draw : Bool} {ev ev' : Operand → V} {h : Heap} {id : Nat}
theorem opR_congr {op : Op} (he : ∀ x, x ∈ op.operands → ev x = ev' x) : opR Ω E draw ev h op id = opR Ω E draw ev' h op id := by
 funext K
 have one : ∀ x, x ∈ op.operands.toList → ev x = ev' x := fun x hx => he x (by simpa using hx)
 cases op with
 | move x => simp only [opR, he x (by simp [Op.operands])]
 | assign x => simp only [opR, he x (by simp [Op.operands])]
 | pick c a b => simp only [opR, he c (by simp [Op.operands]), he a (by simp [Op.operands]), he b (by simp [Op.operands])]
 | nilCheck x => simp only [opR, he x (by simp [Op.operands])]
 | box T x => simp only [opR, he x (by simp [Op.operands])]
 | store T x y => simp only [opR, he x (by simp [Op.operands]), he y (by simp [Op.operands])]
 | load T x => simp only [opR, he x (by simp [Op.operands])]
 | fieldAddr T x f => simp only [opR, he x (by simp [Op.operands])]
 | field T x f => simp only [opR, he x (by simp [Op.operands])]
 | index T x y => simp only [opR, he x (by simp [Op.operands]), he y (by simp [Op.operands])]
 | indexAddr T x y => simp only [opR, he x (by simp [Op.operands]), he y (by simp [Op.operands])]
 | slice T x lo hi mx =>
  have h1 : lo.map ev = lo.map ev' := by cases lo with
   | none => rfl
   | some l => simp only [Option.map_some, he l (by simp [Op.operands])]
  have h2 : hi.map ev = hi.map ev' := by cases hi with
   | none => rfl
   | some l => simp only [Option.map_some, he l (by simp [Op.operands])]
  have h3 : mx.map ev = mx.map ev' := by cases mx with
   | none => rfl
   | some l => simp only [Option.map_some, he l (by simp [Op.operands])]
  simp only [opR, he x (by simp [Op.operands]), h1, h2, h3]
 | build T parts =>
  have h1 : (parts.toList.map fun p => (p.1, ev p.2)) = parts.toList.map fun p => (p.1, ev' p.2) := List.map_congr_left fun p hp => by
   rw [he p.2 (by simp only [Op.operands, List.mem_toArray, List.mem_map]; exact ⟨p, hp, rfl⟩)]
  simp only [opR, h1]
 | buildSlice T len parts =>
  have h1 : (parts.toList.map fun p => (p.1, ev p.2)) = parts.toList.map fun p => (p.1, ev' p.2) := List.map_congr_left fun p hp => by
   rw [he p.2 (by simp only [Op.operands, List.mem_toArray, List.mem_map]; exact ⟨p, hp, rfl⟩)]
  have h2 : (parts.toList.map fun p => ev p.2) = parts.toList.map fun p => ev' p.2 := List.map_congr_left fun p hp => by
   rw [he p.2 (by simp only [Op.operands, List.mem_toArray, List.mem_map]; exact ⟨p, hp, rfl⟩)]
  simp only [opR, h1, h2]
 | makeSlice T l c => simp only [opR, he l (by simp [Op.operands]), he c (by simp [Op.operands])]
 | binOp op T x y U => simp only [opR, he x (by simp [Op.operands]), he y (by simp [Op.operands])]
 | unOp op T x => simp only [opR, he x (by simp [Op.operands])]
 | convert S T x => simp only [opR, he x (by simp [Op.operands])]
 | extract x k => simp only [opR, he x (by simp [Op.operands])]
 | makeInterface T x => simp only [opR, he x (by simp [Op.operands])]
 | call c =>
  obtain ⟨callee, args, ts⟩ := c
  have h1 : args.toList.map ev = args.toList.map ev' := List.map_congr_left fun p hp => he p (by
   simp only [Op.operands, Call.operands, Array.mem_append]
   exact .inr (by simpa using hp))
  cases callee with
  | value f => simp only [opR, h1, he f (by simp [Op.operands, Call.operands])]
  | invoke r m => simp only [opR]
  | builtin b => cases b <;> simp only [opR, h1]
 | makeFunc fn first captured =>
  have h1 : first.toList.map ev = first.toList.map ev' := List.map_congr_left fun p hp => he p (by
   simp only [Op.operands, Array.mem_append]
   exact .inl (by simpa using hp))
  have h2 : captured.toList.map ev = captured.toList.map ev' := List.map_congr_left fun p hp => he p (by
   simp only [Op.operands, Array.mem_append]
   exact .inr (by simpa using hp))
  simp only [opR, h1, h2]
 | _ => simp only [opR]
end
theorem put_comm (s : Nat → V) {x y : Option Tmp} (v u : V) (h : ∀ d, x = some d → y ≠ some d) : put (put s x v) y u = put (put s y u) x v := by
 cases x with
 | none => rfl
 | some d =>
  cases y with
  | none => rfl
  | some e =>
   have hne : e ≠ d := fun he => h d rfl (by rw [he])
   funext t
   simp only [put, upd]
   by_cases c : t = e
   ·subst c; simp [hne]
   ·by_cases d' : t = d <;> simp [c, d', Ne.symm hne]
theorem ups_other (h : Heap) : ∀ (l : List (Nat × Blk)) (i : Nat), i ∉ l.map Prod.fst → ups h l i = h i
 | [], i, _ => rfl
 | (k, b) :: r, i, hi => by
  simp only [List.map_cons, List.mem_cons, not_or] at hi
  simp only [ups]
  rw [upd_other _ _ _ _ hi.1]
  exact ups_other h r i hi.2
theorem ups_same (h h2 : Heap) : ∀ (l : List (Nat × Blk)) (i : Nat), i ∈ l.map Prod.fst → ups h l i = ups h2 l i
 | (k, b) :: r, i, hi => by
  simp only [ups]
  by_cases c : i = k
  ·subst c; rw [upd_same, upd_same]
  ·rw [upd_other _ _ _ _ c, upd_other _ _ _ _ c]
   simp only [List.map_cons, List.mem_cons] at hi
   exact ups_same h h2 r i (hi.resolve_left c)
theorem ups_comm (h : Heap) (a b : List (Nat × Blk)) (hd : ∀ i, i ∈ a.map Prod.fst → i ∉ b.map Prod.fst) : ups (ups h a) b = ups (ups h b) a := by
 funext i
 by_cases c : i ∈ a.map Prod.fst
 ·rw [ups_other _ b i (hd i c)]
  exact ups_same _ _ a i c
 ·rw [ups_other _ a i c]
  by_cases d : i ∈ b.map Prod.fst
  ·exact ups_same _ _ b i d
  ·rw [ups_other _ b i d, ups_other _ b i d, ups_other _ a i c]
section
variable {E : Env} {base : Nat} {ops : Array Oper}
def skipOut : Out := { v := .tup [] }
def Fires (E : Env) (base : Nat) (ops : Array Oper) (n : Nat) (o : Oper) (s : St) (out : Out) : Prop :=
 (guardOf ops s.sl o = some true ∧ opR Ω E true (ev s.sl) s.h o.op (base + n) (fun x => x = out)) ∨ (guardOf ops s.sl o = some false ∧ out = skipOut)
def Trc (E : Env) (base : Nat) (ops : Array Oper) : List (Nat × Out) → St → St → Prop
 | [], s, s' => s' = s
 | (n, out) :: r, s, s' => ∃ o, ops[n]? = some o ∧ Fires E base ops n o s out ∧ Trc E base ops r (step s o.dst out) s'
def wrOf (out : Out) : List Nat := out.upd.map Prod.fst
def rdOf (out : Out) : List Nat := out.upd.map Prod.fst ++ out.rd
def Ind (ops : Array Oper) (x y : Nat × Out) : Prop :=
 (∀ ox oy, ops[x.1]? = some ox → ops[y.1]? = some oy → ox.apart ops oy = true) ∧ (∀ i, i ∈ wrOf x.2 → i ∉ rdOf y.2) ∧ (∀ i, i ∈ wrOf y.2 → i ∉ rdOf x.2)
theorem guardOf_put {s : Nat → V} {o : Oper} {d : Option Tmp} {v : V} (h : ∀ t, d = some t → t ∉ o.looksAt ops) : guardOf ops (put s d v) o = guardOf ops s o := by
 cases d with
 | none => rfl
 | some d =>
  unfold guardOf
  cases hg : o.guard with
  | none => rfl
  | some p =>
   obtain ⟨j, want⟩ := p
   simp only
   cases ht : (ops[j]?).bind (·.dst) with
   | none => rfl
   | some t =>
    have : t ≠ d := fun e => by
     subst e
     refine h t rfl ?_
     simp only [Oper.looksAt, hg, ht, List.mem_append]
     exact .inr (by simp)
    simp only [put]
    rw [upd_other _ _ _ _ this]
theorem ev_put {s : Nat → V} {o : Oper} {d : Option Tmp} {v : V} (h : ∀ t, d = some t → t ∉ o.looksAt ops) : ∀ x, x ∈ o.op.operands → ev (put s d v) x = ev s x := fun x hx => by
 cases d with
 | none => rfl
 | some d =>
  cases x with
  | tmp t =>
   have : t ≠ d := fun e => by
    subst e
    refine h t rfl ?_
    simp only [Oper.looksAt, List.mem_append, List.mem_filterMap]
    exact .inl ⟨.tmp t, by simpa using hx, rfl⟩
   simp only [ev, put]
   rw [upd_other _ _ _ _ this]
  | _ => rfl
theorem Fires.later {x y : Nat × Out} {ox oy : Oper} (hx : ops[x.1]? = some ox) (hy : ops[y.1]? = some oy) (hi : Ind ops x y) {s : St} (hf : Fires E base ops y.1 oy (step s ox.dst x.2) y.2) : Fires E base ops y.1 oy s y.2 := by
 obtain ⟨h1, h2, h3⟩ := Oper.apart_spec (hi.1 ox oy hx hy)
 unfold Fires at hf ⊢
 have hg : guardOf ops (step s ox.dst x.2).sl oy = guardOf ops s.sl oy := guardOf_put h1
 rw [hg] at hf
 rcases hf with ⟨a, b⟩ | c
 ·left
  refine ⟨a, ?_⟩
  rw [show (step s ox.dst x.2).sl = put s.sl ox.dst x.2.v from rfl, opR_congr (ev_put h1)] at b
  refine opR_local b fun j hj => ?_
  show s.h j = ups s.h x.2.upd j
  exact (ups_other _ _ _ fun q => hi.2.1 j q (List.mem_append_right _ hj)).symm
 ·exact .inr c
theorem Fires.sooner {x y : Nat × Out} {ox oy : Oper} (hx : ops[x.1]? = some ox) (hy : ops[y.1]? = some oy) (hi : Ind ops x y) {s : St} (hf : Fires E base ops x.1 ox s x.2) : Fires E base ops x.1 ox (step s oy.dst y.2) x.2 := by
 obtain ⟨h1, h2, h3⟩ := Oper.apart_spec (hi.1 ox oy hx hy)
 unfold Fires at hf ⊢
 have hg : guardOf ops (step s oy.dst y.2).sl ox = guardOf ops s.sl ox := guardOf_put h3
 rw [hg]
 rcases hf with ⟨a, b⟩ | c
 ·left
  refine ⟨a, ?_⟩
  rw [show (step s oy.dst y.2).sl = put s.sl oy.dst y.2.v from rfl, opR_congr (ev_put h3)]
  refine opR_local b fun j hj => ?_
  show ups s.h y.2.upd j = s.h j
  exact ups_other _ _ _ fun q => hi.2.2 j q (List.mem_append_right _ hj)
 ·exact .inr c
theorem step_comm {x y : Nat × Out} {ox oy : Oper} (hx : ops[x.1]? = some ox) (hy : ops[y.1]? = some oy) (hi : Ind ops x y) (s : St) : step (step s ox.dst x.2) oy.dst y.2 = step (step s oy.dst y.2) ox.dst x.2 := by
 obtain ⟨h1, h2, h3⟩ := Oper.apart_spec (hi.1 ox oy hx hy)
 simp only [step]
 rw [put_comm _ _ _ h2, ups_comm]
 exact fun i a b => hi.2.1 i a (List.mem_append_left _ b)
theorem Trc.first {s' : St} : ∀ (pre : List (Nat × Out)) (x : Nat × Out) (post : List (Nat × Out)) (s : St), (∀ y, y ∈ pre → Ind ops y x) → Trc E base ops (pre ++ x :: post) s s' → Trc E base ops (x :: (pre ++ post)) s s'
 | [], x, post, s, _, h => h
 | y :: pre, x, post, s, hi, h => by
  obtain ⟨oy, hy, fy, hr⟩ := h
  obtain ⟨ox, hx, fx, hr2⟩ := Trc.first pre x post _ (fun z hz => hi z (by simp [hz])) hr
  have ind := hi y (by simp)
  refine ⟨ox, hx, fx.later hy hx ind, oy, hy, fy.sooner hy hx ind, ?_⟩
  rw [← step_comm hy hx ind]
  exact hr2
theorem wpl_trc : ∀ (r : List Oper) (m : Nat), (∀ j : Nat, r[j]? = ops[m + j]?) → ∀ (log : List Foot) (s : St) (K : List Foot → St → Prop), wpl Ω E true base ops r m log s K →
  ∃ tr s', tr.map Prod.fst = List.range' m r.length ∧ Trc E base ops tr s s' ∧ K ((tr.map fun x => (⟨x.1, rdOf x.2, wrOf x.2⟩ : Foot)).reverse ++ log) s'
 | [], m, _, log, s, K, h => ⟨[], s, rfl, rfl, h⟩
 | o :: r, m, hr, log, s, K, h => by
  have h0 : ops[m]? = some o := by simpa using (hr 0).symm
  have hr' : ∀ j : Nat, r[j]? = ops[m + 1 + j]? := fun j => by have := hr (j + 1); simpa [Nat.add_assoc, Nat.add_comm 1 j] using this
  rcases wpl_guard h with ⟨g, hop⟩ | ⟨g, hskip⟩
  ·obtain ⟨out, h1, h2⟩ := opR_ex rfl hop
   obtain ⟨tr, s', t1, t2, t3⟩ := wpl_trc r (m + 1) hr' _ _ K h2
   refine ⟨(m, out) :: tr, s', by simp [t1, List.range'_succ], ⟨o, h0, .inl ⟨g, h1⟩, t2⟩, ?_⟩
   simpa [rdOf, wrOf] using t3
  ·obtain ⟨tr, s', t1, t2, t3⟩ := wpl_trc r (m + 1) hr' _ _ K hskip
   refine ⟨(m, skipOut) :: tr, s', by simp [t1, List.range'_succ], ⟨o, h0, .inr ⟨g, rfl⟩, t2⟩, ?_⟩
   simpa [rdOf, wrOf, skipOut] using t3
end
theorem fire_sound {P : Program} {E : Env} {B : Base} {n : Nat} (ok : EnvOk P E) {base : Nat} {ops : Array Oper} {i : Nat} {o : Oper} (ho : ops[i]? = some o) (hd : ∀ t, o.dst = some t → t < n) {s : St} {a : Act} {w : World} (S : Sim B n s a w)
  {out : Out} (hf : Fires E base ops i o s out) {K : Act → World → Prop} {Q : Exit → Act → World → Prop} (hK : ∀ a' w', Sim B n (step s o.dst out) a' w' → K a' w') : wpOp P ops Q i K a w := by
 have hg : ∀ b, guardOf ops s.sl o = some b → Region.wanted o (yielded ops a.tmps) = b := fun b hb => by
  obtain ⟨ι, imm, e, I, h1, h2, h3⟩ := S
  exact guard_rep h3 hb
 unfold wpOp
 simp only [ho]
 rcases hf with ⟨g, h⟩ | ⟨g, rfl⟩
 ·rw [hg _ g]
  simp only [if_true]
  exact .inl (oper_sound ok S h hd fun out' a' w' e S' => by subst e; exact hK a' w' S')
 ·rw [hg _ g]
  simp only [Bool.false_eq_true, if_false]
  exact hK _ _ (skip_sound S hd)
def regOk (n : Nat) (ops : Array Oper) (draw : Bool) : Bool :=
 ops.toList.all (fun o => match o.dst with | some t => decide (t < n) | none => true) &&
 (!draw || ((List.range ops.size).all (fun i => match ops[i]? with | some o => o.after.toList.all fun e => !Region.binds .any e || decide (e.on < i) | none => true) &&
  (List.range ops.size).all fun i => (List.range ops.size).all fun j => i == j || ((ancM ops.toList).getD j 0).testBit i || ((ancM ops.toList).getD i 0).testBit j ||
   match ops[i]?, ops[j]? with | some x, some y => x.apart ops y | _, _ => true))
theorem regOk_dst {n : Nat} {ops : Array Oper} {draw : Bool} (h : regOk n ops draw = true) : ∀ (i : Nat) (o : Oper) (t : Tmp), ops[i]? = some o → o.dst = some t → t < n := fun i o t hi ht => by
 simp only [regOk, Bool.and_eq_true] at h
 have := List.all_eq_true.1 h.1 o (by have := List.mem_of_getElem? (l := ops.toList) (i := i) (by simpa using hi); exact this)
 rw [ht] at this
 simpa using this
theorem ancM_edges (acc : List (List Nat)) (accM : List Nat) (hA : ∀ j k, (accM.getD j 0).testBit k = true → k ∈ acc.getD j []) (k : Nat) : ∀ (es : List Edge) (m : Nat),
  (es.foldl (fun m e => m ||| (1 <<< e.on ||| accM.getD e.on 0)) m).testBit k = true → m.testBit k = true ∨ k ∈ es.flatMap fun e => e.on :: acc.getD e.on []
 | [], m, h => .inl h
 | e :: r, m, h => by
  rcases ancM_edges acc accM hA k r _ h with q | q
  ·rw [Nat.testBit_or, Nat.testBit_or, Bool.or_eq_true, Bool.or_eq_true] at q
   rcases q with q | q | q
   ·exact .inl q
   ·refine .inr ?_
    rw [Nat.testBit_shiftLeft] at q
    simp only [Bool.and_eq_true, decide_eq_true_eq] at q
    have : k - e.on = 0 := by
     rcases Nat.eq_zero_or_pos (k - e.on) with h | h
     ·exact h
     ·have := q.2
      rw [Nat.testBit_one_eq_true_iff_self_eq_zero] at this
      exact this
    have : k = e.on := by omega
    simp [this]
   ·exact .inr (by simp only [List.flatMap_cons, List.mem_append, List.mem_cons]; exact .inl (.inr (hA _ _ q)))
  ·exact .inr (by simp only [List.flatMap_cons, List.mem_append]; exact .inr q)
theorem ancM_fold : ∀ (l : List Oper) (acc : List (List Nat)) (accM : List Nat), acc.length = accM.length → (∀ j k, (accM.getD j 0).testBit k = true → k ∈ acc.getD j []) →
  ∀ j k, ((l.foldl (fun acc o => acc ++ [(o.after.toList.filter (Region.binds .any)).foldl (fun m e => m ||| (1 <<< e.on ||| acc.getD e.on 0)) 0]) accM).getD j 0).testBit k = true →
   k ∈ (l.foldl (fun acc o => acc ++ [(o.after.toList.filter (Region.binds .any)).flatMap fun e => e.on :: acc.getD e.on []]) acc).getD j []
 | [], acc, accM, _, h => h
 | o :: r, acc, accM, hl, h => by
  refine ancM_fold r _ _ (by simp [hl]) fun j k hk => ?_
  rcases Nat.lt_trichotomy j acc.length with q | q | q
  ·have h1 : j < accM.length := by omega
   simp only [List.getD_eq_getElem?_getD, List.getElem?_append_left h1, List.getElem?_append_left q] at hk ⊢
   have := h j k
   simp only [List.getD_eq_getElem?_getD] at this
   exact this hk
  ·subst q
   rw [List.getD_eq_getElem?_getD, hl, List.getElem?_concat_length] at hk
   rw [List.getD_eq_getElem?_getD, List.getElem?_concat_length]
   rcases ancM_edges acc accM h k _ 0 hk with q | q
   ·simp at q
   ·exact q
  ·rw [List.getD_eq_getElem?_getD, List.getElem?_eq_none (by simp; omega)] at hk
   simp at hk
theorem ancM_ok (l : List Oper) (j k : Nat) (h : ((ancM l).getD j 0).testBit k = true) : k ∈ (anc l).getD j [] := ancM_fold l [] [] rfl (by simp) j k h
def ancF (acc : List (List Nat)) (l : List Oper) : List (List Nat) :=
 l.foldl (fun acc o => acc ++ [(o.after.toList.filter (Region.binds .any)).flatMap fun e => e.on :: acc.getD e.on []]) acc
theorem ancF_prefix : ∀ (l : List Oper) (acc : List (List Nat)), ∃ q, ancF acc l = acc ++ q
 | [], acc => ⟨[], by simp [ancF]⟩
 | o :: r, acc => by
  obtain ⟨q, hq⟩ := ancF_prefix r (acc ++ [(o.after.toList.filter (Region.binds .any)).flatMap fun e => e.on :: acc.getD e.on []])
  have : ancF acc (o :: r) = ancF (acc ++ [(o.after.toList.filter (Region.binds .any)).flatMap fun e => e.on :: acc.getD e.on []]) r := rfl
  rw [this, hq, List.append_assoc]
  exact ⟨_, rfl⟩
theorem flatMap_congr' {α β : Type} {l : List α} {f g : α → List β} (h : ∀ x, x ∈ l → f x = g x) : l.flatMap f = l.flatMap g := by
 induction l with
 | nil => rfl
 | cons a r ih =>
  simp only [List.flatMap_cons]
  rw [h a (by simp), ih fun x hx => h x (by simp [hx])]
theorem ancF_get : ∀ (l : List Oper) (acc : List (List Nat)) (j : Nat) (o : Oper), l[j]? = some o → (∀ e, e ∈ o.after.toList → Region.binds .any e = true → e.on < acc.length + j) →
  (ancF acc l).getD (acc.length + j) [] = (o.after.toList.filter (Region.binds .any)).flatMap fun e => e.on :: (ancF acc l).getD e.on []
 | [], acc, j, o, h, _ => by simp at h
 | o' :: r, acc, j, o, h, he => by
  have hstep : ancF acc (o' :: r) = ancF (acc ++ [(o'.after.toList.filter (Region.binds .any)).flatMap fun e => e.on :: acc.getD e.on []]) r := rfl
  cases j with
  | zero =>
   simp at h
   subst h
   obtain ⟨q, hq⟩ := ancF_prefix r (acc ++ [(o'.after.toList.filter (Region.binds .any)).flatMap fun e => e.on :: acc.getD e.on []])
   rw [hstep, hq]
   have e1 : (acc ++ [(o'.after.toList.filter (Region.binds .any)).flatMap fun e => e.on :: acc.getD e.on []] ++ q).getD (acc.length + 0) [] = (o'.after.toList.filter (Region.binds .any)).flatMap fun e => e.on :: acc.getD e.on [] := by
    simp [List.getD, List.getElem?_append]
   rw [e1]
   refine flatMap_congr' fun e hm => ?_
   rw [List.mem_filter] at hm
   have hlt : e.on < acc.length := by have := he e hm.1 hm.2; omega
   congr 1
   simp [List.getD, List.getElem?_append, hlt, Nat.lt_succ_of_lt hlt]
  | succ j =>
   have := ancF_get r (acc ++ [(o'.after.toList.filter (Region.binds .any)).flatMap fun e => e.on :: acc.getD e.on []]) j o (by simpa using h) (fun e a b => by have := he e a b; simp; omega)
   rw [hstep]
   have e1 : acc.length + (j + 1) = (acc ++ [(o'.after.toList.filter (Region.binds .any)).flatMap fun e => e.on :: acc.getD e.on []]).length + j := by simp; omega
   rw [e1]
   exact this
theorem anc_get (l : List Oper) (j : Nat) (o : Oper) (h : l[j]? = some o) (he : ∀ e, e ∈ o.after.toList → Region.binds .any e = true → e.on < j) :
  (anc l).getD j [] = (o.after.toList.filter (Region.binds .any)).flatMap fun e => e.on :: (anc l).getD e.on [] := by
 have := ancF_get l [] j o h (by simpa using he)
 simpa [anc, ancF] using this
theorem anc_lt (l : List Oper) (hl : ∀ (j : Nat) (o : Oper), l[j]? = some o → ∀ e, e ∈ o.after.toList → Region.binds .any e = true → e.on < j) :
  ∀ (n j : Nat), j < n → ∀ i, i ∈ (anc l).getD j [] → i < j
 | 0, j, hj, _, _ => absurd hj (Nat.not_lt_zero _)
 | n + 1, j, hj, i, hi => by
  cases ho : l[j]? with
  | none =>
   have hlen : (anc l).length ≤ j := by
    have h1 : l.length ≤ j := by
     rcases Nat.lt_or_ge j l.length with q | q
     ·rw [List.getElem?_eq_getElem q] at ho; cases ho
     ·exact q
    have : ∀ (l : List Oper) (acc : List (List Nat)), (ancF acc l).length = acc.length + l.length := fun l => by
     induction l with
     | nil => intro acc; rfl
     | cons o r ih => intro acc; show (ancF (acc ++ [_]) r).length = _; rw [ih]; simp; omega
    have := this l []
    have e : anc l = ancF [] l := rfl
    rw [e, this]; simp; exact h1
   rw [List.getD_eq_getElem?_getD, List.getElem?_eq_none hlen] at hi
   cases hi
  | some o =>
   rw [anc_get l j o ho (hl j o ho)] at hi
   obtain ⟨e, he, hi⟩ := List.mem_flatMap.1 hi
   rw [List.mem_filter] at he
   have h1 := hl j o ho e he.1 he.2
   rcases List.mem_cons.1 hi with q | q
   ·subst q; exact h1
   ·have := anc_lt l hl n e.on (by omega) i q
    omega
theorem draw_sound {P : Program} {E : Env} {B : Base} {n : Nat} (ok : EnvOk P E) {base : Nat} {ops : Array Oper} (hd : ∀ (i : Nat) (o : Oper) (t : Tmp), ops[i]? = some o → o.dst = some t → t < n)
  (hl : ∀ (j : Nat) (o : Oper), ops.toList[j]? = some o → ∀ e, e ∈ o.after.toList → Region.binds .any e = true → e.on < j) {Q : Exit → Act → World → Prop} {s' : St} (hQ : ∀ a w, Sim B n s' a w → Q .normal a w) :
  ∀ (fuel : Nat) (tr : List (Nat × Out)) (listed : Array Bool) (s : St) (a : Act) (w : World), tr.length = fuel → Trc E base ops tr s s' → Sim B n s a w → listed.size = ops.size →
   (tr.map Prod.fst).Pairwise (· < ·) → (∀ i, i < ops.size → (listed.getD i true = false ↔ i ∈ tr.map Prod.fst)) →
   (∀ i, i < ops.size → listed.getD i true = true → ∀ k, k ∈ (anc ops.toList).getD i [] → listed.getD k false = true) →
   (∀ x y, x ∈ tr → y ∈ tr → x.1 < y.1 → x.1 ∉ (anc ops.toList).getD y.1 [] → Ind ops x y) →
   wpAny P .any ops Q fuel listed a w
 | 0, tr, listed, s, a, w, hlen, ht, S, hsz, _, hlist, _, _ => by
  have : tr = [] := List.eq_nil_of_length_eq_zero hlen
  subst this
  have : s' = s := ht
  subst this
  refine ⟨?_, hQ a w S⟩
  rw [List.eq_nil_iff_forall_not_mem]
  intro i hi
  rw [mem_ready] at hi
  obtain ⟨h0, o, ho, _⟩ := hi
  have hlt : i < ops.size := (Array.getElem?_eq_some_iff.1 ho).1
  have := (hlist i hlt).1 h0
  cases this
 | fuel + 1, tr, listed, s, a, w, hlen, ht, S, hsz, hpw, hlist, hdown, hind => by
  have hmem : ∀ x, x ∈ tr → x.1 < ops.size ∧ listed.getD x.1 true = false := fun x hx => by
   have hlt : x.1 < ops.size := by
    have key : ∀ (tr : List (Nat × Out)) (s : St), Trc E base ops tr s s' → ∀ x, x ∈ tr → x.1 < ops.size := fun tr => by
     induction tr with
     | nil => intro s _ x hx; cases hx
     | cons y r ih =>
      intro s ⟨o, ho, _, hr⟩ x hx
      rcases List.mem_cons.1 hx with q | q
      ·subst q; exact (Array.getElem?_eq_some_iff.1 ho).1
      ·exact ih _ hr x q
    exact key tr s ht x hx
   exact ⟨hlt, (hlist x.1 hlt).2 (List.mem_map.2 ⟨x, hx, rfl⟩)⟩
  refine ⟨fun hnil => ?_, fun i hi => ?_⟩
  ·-- the first one is ready
   exfalso
   cases tr with
   | nil => simp at hlen
   | cons x r =>
    obtain ⟨o, ho, _, _⟩ := ht
    have h0 := hmem x (by simp)
    have : x.1 ∈ Region.ready .any ops listed := by
     rw [mem_ready]
     refine ⟨h0.2, o, ho, fun e he hb => ?_⟩
     have hlt := hl x.1 o (by simpa using ho) e (by simpa using he) hb
     have h1 : e.on < ops.size := by omega
     have h2 : ¬ listed.getD e.on true = false := fun q => by
      obtain ⟨y, hy, hyx⟩ := List.mem_map.1 ((hlist e.on h1).1 q)
      rcases List.mem_cons.1 hy with q' | q'
      ·subst q'; omega
      ·have := (List.pairwise_cons.1 (by simpa using hpw)).1 y.1 (List.mem_map.2 ⟨y, q', rfl⟩)
       omega
     have h3 : e.on < listed.size := by omega
     simp only [Array.getD_eq_getD_getElem?, Array.getElem?_eq_getElem h3, Option.getD_some, Bool.not_eq_false] at h2 ⊢
     exact h2
    rw [hnil] at this; cases this
  ·have hi' := hi
   rw [mem_ready] at hi
   obtain ⟨h0, o, ho, hdeps⟩ := hi
   have hlt : i < ops.size := (Array.getElem?_eq_some_iff.1 ho).1
   obtain ⟨x, hx, hxi⟩ := List.mem_map.1 ((hlist i hlt).1 h0)
   subst hxi
   obtain ⟨pre, post, rfl⟩ := List.append_of_mem hx
   have hanc : ∀ k, k ∈ (anc ops.toList).getD x.1 [] → listed.getD k false = true := fun k hk => by
    rw [anc_get ops.toList x.1 o (by simpa using ho) (hl x.1 o (by simpa using ho))] at hk
    obtain ⟨e, he, hk⟩ := List.mem_flatMap.1 hk
    rw [List.mem_filter] at he
    have h1 := hdeps e (by simpa using he.1) he.2
    rcases List.mem_cons.1 hk with q | q
    ·subst q; exact h1
    ·have h2 := hl x.1 o (by simpa using ho) e he.1 he.2
     have h3 : e.on < listed.size := by omega
     refine hdown e.on (by omega) ?_ k q
     simp only [Array.getD_eq_getD_getElem?, Array.getElem?_eq_getElem h3, Option.getD_some] at h1 ⊢
     exact h1
   have hpw' : ∀ y, y ∈ pre → y.1 < x.1 := fun y hy => by
    rw [List.map_append, List.map_cons] at hpw
    exact (List.pairwise_append.1 hpw).2.2 y.1 (List.mem_map.2 ⟨y, hy, rfl⟩) x.1 (by simp)
   have hfirst := Trc.first pre x post s (fun y hy => hind y x (by simp [hy]) (by simp) (hpw' y hy) fun q => by
    have h1 := hanc y.1 q
    have h2 := (hmem y (by simp [hy])).2
    have h3 := (hmem y (by simp [hy])).1
    have h4 : y.1 < listed.size := by omega
    simp only [Array.getD_eq_getD_getElem?, Array.getElem?_eq_getElem h4, Option.getD_some] at h1 h2
    rw [h1] at h2; cases h2) ht
   obtain ⟨o', ho', hfire, hrest⟩ := hfirst
   rw [ho] at ho'; cases ho'
   refine fire_sound ok ho (fun t ht => hd x.1 o t ho ht) S hfire fun a' w' S' => ?_
   have hnd : x.1 ∉ (pre ++ post).map Prod.fst := fun q => by
    rw [List.map_append, List.map_cons] at hpw
    obtain ⟨p1, p2, p3⟩ := List.pairwise_append.1 hpw
    rw [List.map_append, List.mem_append] at q
    rcases q with q | q
    ·have := p3 x.1 q x.1 (by simp); omega
    ·have := (List.pairwise_cons.1 p2).1 x.1 q; omega
   refine draw_sound ok hd hl hQ fuel (pre ++ post) (listed.setIfInBounds x.1 true) _ a' w' (by simp at hlen ⊢; omega) hrest S' (by simp [hsz]) ?_ (fun j hj => ?_) (fun j hj hjt k hk => ?_) (fun y z hy hz => hind y z (by simp only [List.mem_append, List.mem_cons] at hy ⊢; rcases hy with q | q <;> simp [q]) (by simp only [List.mem_append, List.mem_cons] at hz ⊢; rcases hz with q | q <;> simp [q]))
   ·refine hpw.sublist ?_
    rw [List.map_append, List.map_append, List.map_cons]
    exact List.Sublist.append_left (List.sublist_cons_self _ _) _
   ·by_cases c : j = x.1
    ·subst c
     have : (listed.setIfInBounds x.1 true).getD x.1 true = true := by
      have : x.1 < listed.size := by omega
      simp [Array.getD, this]
     rw [this]
     exact ⟨fun q => (by cases q), fun q => absurd q hnd⟩
    ·rw [getD_set_ne true (Ne.symm c), hlist j hj]
     simp only [List.map_append, List.map_cons, List.mem_append, List.mem_cons]
     constructor
     ·rintro (q | q | q)
      ·exact .inl q
      ·exact absurd q c
      ·exact .inr q
     ·rintro (q | q)
      ·exact .inl q
      ·exact .inr (.inr q)
   ·by_cases c : j = x.1
    ·subst c
     exact getD_set_true (hanc k hk)
    ·rw [getD_set_ne true (Ne.symm c)] at hjt
     exact getD_set_true (hdown j hj hjt k hk)
end Go.K
