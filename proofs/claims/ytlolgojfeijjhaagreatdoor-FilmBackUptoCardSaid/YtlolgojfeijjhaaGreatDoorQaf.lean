/-
  Parts of the proof, joined by a program of this work: KTurn, KCall, KOp, KSim.
-/
import Derived.Test.YtlolgojfeijjhaaGreatDoorQab
import Derived.RangeFuncNested
import Derived.RangeFuncBound
import Derived.RangeFuncCalls
import Derived.RangeFuncLeaves
import Derived.Test.YtlolgojfeijjhaaGreatDoorQae
set_option linter.unnecessarySimpa false
set_option linter.unusedSectionVars false
set_option linter.unusedSimpArgs false
set_option linter.unusedVariables false
section
namespace Go.K
open Go
theorem alloc_old (w : World) (o : Obj) (k : Nat) (h : k < w.heap.size) : (w.alloc o).heap[k]? = w.heap[k]? := by
 show (w.heap.push o)[k]? = _
 rw [Array.getElem?_push, if_neg (by omega)]
def imc (imm : Nat → Prop) (w : World) (g : Nat) : Prop := imm g ∧ ∃ cs T fr, w.heap[g]? = some (.cells cs T fr)
theorem RepC.cel {imm : Nat → Prop} {w : World} {x : D} {v : Value} (h : RepC imm w x v) : RepC (imc imm w) w x v := by
 induction h with
 | b x => exact .b x
 | i k n => exact .i k n
 | s x => exact .s x
 | np => exact .np
 | nif => exact .nif
 | ifc t x v _ ih => exact .ifc t x v ih
 | sl0 base cap => exact .sl0 base cap
 | sl xs g off cap sz cs T fr hne hi hg hc hs hb _ ih => exact .sl xs g off cap sz cs T fr hne ⟨hi, _, _, _, hg⟩ hg hc hs hb ih
theorem RepD.cel {imm : Nat → Prop} {w : World} {x : D} {v : Value} (h : RepD imm w x v) : RepD (imc imm w) w x v := by
 cases x <;> first
  | exact RepC.cel h
  | (obtain ⟨vs, hv, hs, hc⟩ := h; exact ⟨vs, hv, hs, fun j hj => (hc j hj).cel⟩)
theorem RepV1.cel {ι : Nat → Option Value} {imm : Nat → Prop} {w : World} {x : V} {v : Value} (h : RepV1 ι imm w x v) : RepV1 ι (imc imm w) w x v := by
 cases x with
 | d x => exact RepC.cel h
 | ip x off => obtain ⟨g, o, cs, T, fr, h1, h2, h3, h4⟩ := h; exact ⟨g, o, cs, T, fr, ⟨h1, _, _, _, h2⟩, h2, h3, fun j hj => ⟨(h4 j hj).1, (h4 j hj).2.cel⟩⟩
 | _ => exact h
theorem RepV0.cel {ι : Nat → Option Value} {imm : Nat → Prop} {w : World} {x : V} {v : Value} (h : RepV0 ι imm w x v) : RepV0 ι (imc imm w) w x v := by
 cases x with
 | d x => exact RepD.cel h
 | agg cs => obtain ⟨vs, hv, hs, hc⟩ := h; exact ⟨vs, hv, hs, fun j hj => ⟨(hc j hj).1.cel, (hc j hj).2⟩⟩
 | ip x off => exact RepV1.cel (ι := ι) (x := .ip x off) h
 | _ => exact h
theorem RepV.cel {ι : Nat → Option Value} {imm : Nat → Prop} {w : World} {x : V} {v : Value} (h : RepV ι imm w x v) : RepV ι (imc imm w) w x v := by
 cases x with
 | tup cs => obtain ⟨vs, hv, hs, hc⟩ := h; exact ⟨vs, hv, hs, fun j hj => (hc j hj).cel⟩
 | d x => exact RepV0.cel (ι := ι) (x := .d x) h
 | agg cs => exact RepV0.cel (ι := ι) (x := .agg cs) h
 | ip x off => exact RepV0.cel (ι := ι) (x := .ip x off) h
 | _ => exact h
theorem BlkRep.cel {ι : Nat → Option Value} {imm : Nat → Prop} {w : World} {B : Blk} {v : Value} (h : BlkRep ι imm w B v) : BlkRep ι (imc imm w) w B v := by
 cases B with
 | dead => trivial
 | var cs vt =>
  obtain ⟨g, vs, T, h1, h2, h3, h4⟩ := h
  exact ⟨g, vs, T, h1, h2, h3, fun j hj => ⟨(h4 j hj).1.cel, (h4 j hj).2⟩⟩
 | row l e sz xs =>
  cases l with
  | false => exact ⟨h.1.cel, h.2⟩
  | true =>
   obtain ⟨cells, ho, h2, h3⟩ := h
   exact ⟨cells, ho, h2, fun i j a b => (h3 i j a b).cel⟩
theorem Inv.cel {ι : Nat → Option Value} {imm : Nat → Prop} {h : Heap} {w : World} (I : Inv ι imm h w) : Inv ι (imc imm w) h w :=
 ⟨fun id B hB => let ⟨v, h1, h2⟩ := I.blk id B hB; ⟨v, h1, h2.cel⟩, I.non, fun g o e => I.own g o e.1, I.inj, fun g e => I.lt g e.1⟩
theorem Inv.owned_cells {ι : Nat → Option Value} {imm : Nat → Prop} {h : Heap} {w : World} (I : Inv ι imm h w) {g : Nat} (o : Owned ι h g) : ∃ cs T fr, w.heap[g]? = some (.cells cs T fr) := by
 obtain ⟨id, B, v, h1, h2, h3, h4⟩ := o
 obtain ⟨v', h5, h6⟩ := I.blk id B h1
 rw [h3] at h5; cases h5
 cases B with
 | dead => cases h2
 | var cs vt =>
  obtain ⟨g', vs, T, rfl, h7, _⟩ := h6
  cases h4
  exact ⟨_, _, _, h7⟩
 | row l e sz xs =>
  cases l with
  | false => cases h2
  | true =>
   obtain ⟨cells, ho, _⟩ := h6
   rcases ho.2 with ⟨rfl, _⟩ | ⟨g', cap, cur, fr, rfl, _, h7, _⟩
   ·cases h4
   ·cases h4
    exact ⟨_, _, _, h7⟩
theorem Inv.not_owned {ι : Nat → Option Value} {imm : Nat → Prop} {h : Heap} {w : World} (I : Inv ι imm h w) {g : Nat} {o : Obj} (hg : w.heap[g]? = some o) (ho : o.isCells = false) : ¬ Owned ι h g := fun q => by
 obtain ⟨cs, T, fr, h1⟩ := I.owned_cells q
 rw [hg] at h1; cases h1; cases ho
theorem Inv.turned {ι : Nat → Option Value} {imm : Nat → Prop} {h : Heap} {w w' : World} (I : Inv ι imm h w) {L : Nat} {o : Obj} (hl : w.heap[L]? = some o) (ho : o.isCells = false)
  (hsize : w.heap.size ≤ w'.heap.size) (hkeep : ∀ g, g < w.heap.size → g ≠ L → w'.heap[g]? = w.heap[g]?) :
  Inv ι (fun g => imm g ∧ g ≠ L) h w' ∧ ∀ x v, RepV ι imm w x v → RepV ι (fun g => imm g ∧ g ≠ L) w' x v := by
 have hcl : ∀ (g : Nat) (cs : Array Value) (T : TypeId) (fr : Nat × Nat), w.heap[g]? = some (.cells cs T fr) → g ≠ L := fun g cs T fr hg q => by subst q; rw [hl] at hg; cases hg; cases ho
 have hne : ∀ (g : Nat) (cs : Array Value) (T : TypeId) (fr : Nat × Nat), w.heap[g]? = some (.cells cs T fr) → w'.heap[g]? = w.heap[g]? := fun g cs T fr hg =>
  hkeep g (Array.getElem?_eq_some_iff.1 hg).1 (hcl g cs T fr hg)
 have hm : ∀ g, imc imm w g → (imm g ∧ g ≠ L) ∧ w'.heap[g]? = w.heap[g]? := fun g hg => by
  obtain ⟨h1, cs, T, fr, e⟩ := hg
  exact ⟨⟨h1, hcl g cs T fr e⟩, hne g cs T fr e⟩
 have I1 := I.cel
 refine ⟨⟨fun id B hB => ?_, I.non, fun g o e => I.own g o e.1, I.inj, fun g e => Nat.lt_of_lt_of_le (I.lt g e.1) hsize⟩, fun x v hx => hx.cel.mono (fun _ _ e => e) hm⟩
 obtain ⟨v, h1, h2⟩ := I1.blk id B hB
 refine ⟨v, h1, h2.mono (fun _ _ e => e) hm fun g hlive hb => ?_⟩
 obtain ⟨cs, T, fr, e⟩ := I.owned_cells ⟨id, B, v, hB, hlive, h1, hb⟩
 exact hne g cs T fr e
theorem Evo.turned {ι0 ι : Nat → Option Value} {imm0 imm : Nat → Prop} {h0 h : Heap} {w0 w w' : World} (e : Evo ι0 imm0 h0 w0 ι imm h w) (I : Inv ι imm h w) {L : Nat} {o : Obj} (hl : w.heap[L]? = some o) (ho : o.isCells = false)
  (hB : w0.heap.size ≤ L) (hi : ∀ g, imm0 g → g < w0.heap.size) (hsize : w.heap.size ≤ w'.heap.size) (hkeep : ∀ g, g < w.heap.size → g ≠ L → w'.heap[g]? = w.heap[g]?) (hos : w'.os = w.os) (ht : w'.tape = w.tape) (hu : w'.output = w.output) :
  Evo ι0 imm0 h0 w0 ι (fun g => imm g ∧ g ≠ L) h w' :=
 ⟨e.ids, fun g q => ⟨e.immS g q, by have := hi g q; omega⟩, fun g q => e.immR g q.1, e.own', fun g hg hn => (hkeep g (Nat.lt_of_lt_of_le hg e.size) (by omega)).trans (e.keep g hg hn), Nat.le_trans e.size hsize, hos.trans e.os, ht.trans e.tape, hu.trans e.output⟩
end Go.K
end
section
namespace Go.K
open Go
def Callable (P : Program) (f : FuncId) : Prop := ∃ fn, P.funcs[f]? = some fn ∧ (fn.name == "runtime.NumGoroutine") = false ∧ fn.body.isNone = false
def GoodB (P : Program) (f : FuncId) (args : List V) (bs : List Blk) (r : V) (bs' : List Blk) : Prop :=
 Callable P f ∧ ∀ (ι : Nat → Option Value) (imm : Nat → Prop) (w : World) (vs : Array Value), Inv ι imm (mkH bs) w → vs.size = args.length → (∀ j, j < args.length → RepV ι imm w (args.getD j .junk) (vs.getD j undef)) →
  Calls P f vs w fun e w' => ∃ v ι' imm', e = .returned v ∧ Evo ι imm (mkH bs) w ι' imm' (mkH bs') w' ∧ Inv ι' imm' (mkH bs') w' ∧ RepV ι' imm' w' r v
def GoodX (P : Program) (f : FuncId) (args : List V) (bs : List Blk) (r : V) (bs' : List Blk) : Prop :=
 bs = [] ∧ bs' = [] ∧ (∀ fn, P.funcs[f]? = some fn → fn.body.isNone = true) ∧ ∃ (ds : List D) (x : D), args = ds.map V.d ∧ r = .d x ∧
  ∀ (imm : Nat → Prop) (w : World) (vs : Array Value), vs.size = ds.length → (∀ j, j < ds.length → RepD imm w (ds.getD j .np) (vs.getD j undef)) → ∃ v, (callFunc f vs).run P w = .ok (.value v) w ∧ RepD imm w x v
def Good (P : Program) (f : FuncId) (args : List V) (bs : List Blk) (r : V) (bs' : List Blk) : Prop := GoodB P f args bs r bs' ∨ GoodX P f args bs r bs'
theorem Good.b {P : Program} {f : FuncId} {args : List V} {bs : List Blk} {r : V} {bs' : List Blk} (h : Good P f args bs r bs') {fn : Func} (hf : P.funcs[f]? = some fn) (hb : fn.body.isNone = false) : GoodB P f args bs r bs' := by
 rcases h with h | ⟨_, _, h, _⟩
 ·exact h
 ·rw [h fn hf] at hb; cases hb
def BackOk (P : Program) (g : FuncId) : Prop :=
 Callable P g ∧ ∀ (l Bs len cap : Nat) (base : Option Addr) (val : Nat → Value) (J : Nat → World → Prop) (W : World), len ≤ 4611686018427387904 →
  (∀ k W1, k < len → J (len - 1 - k) W1 → YieldAt Fence.wide 0 P l #[.int .i64 k, val k] W1 fun e W' => e = .returned (.bool true) ∧ J (len - k) W') →
  (∀ i W1, i ≤ len → J i W1 → W1.cell? ⟨Bs, 0, none⟩ = some (.slice base len cap) ∧ ∀ k, k < len → ∃ a, base = some a ∧ W1.cell? (a.add k) = some (val k)) →
  J 0 W → CallsIn Fence.wide 1 P g #[.func (.yield l) #[] #[], .pointer (some ⟨Bs, 0, none⟩)] W fun e W' => (∃ v, e = .returned v) ∧ J len W'
structure EnvOk (P : Program) (E : Env) : Prop where
 tt : TTok P E.tt
 C : ∀ g ds r, E.C g ds r → Good P g (ds.map V.d) [] r []
 C2 : ∀ g args bs r bs', E.C2 g args bs r bs' → Good P g args bs r bs'
 la : ∀ T t, E.la T t = true → liesAt P P.depth T 1 0 t 1 = true
 ne : ∀ g, E.ne g = true → ∀ (v : Value) (w : World), (callFunc g #[v]).run P w = .ok (.value v) w
 bw : ∀ g, E.bw g = true → BackOk P g
def OpDone (P : Program) (ι : Nat → Option Value) (imm : Nat → Prop) (h : Heap) (w : World) (K : Out → Prop) (r : Result Next) : Prop :=
 Done ι imm h w K r ∨ ∃ g vs, r = .ok (.enter g vs) w ∧ Calls P g vs w fun e w' => ∃ v out ι' imm', e = .returned v ∧ K out ∧ Evo ι imm h w ι' imm' (ups h out.upd) w' ∧ Inv ι' imm' (ups h out.upd) w' ∧ RepV ι' imm' w' out.v v
section
variable {ι : Nat → Option Value} {imm : Nat → Prop} {h : Heap} {w : World} {K : Out → Prop}
variable {P : Program} {E : Env} {draw : Bool} {ev : Operand → V} {ρ : Operand → Value} {o : Oper} {id : Nat}
theorem renC_rep {ι' : Nat → Option Value} {f : Nat → Option Nat} (hf : ∀ i k v, f i = some k → ι i = some v → ι' k = some v) : ∀ (l l' : List (Option Nat)) , renC f l = some l' → l'.length = l.length ∧ ∀ j v, j < l.length → RepCap ι (l.getD j none) v → RepCap ι' (l'.getD j none) v
 | [], l', e => by cases e; exact ⟨rfl, fun j v hj => absurd hj (Nat.not_lt_zero _)⟩
 | none :: r, l', e => by
  simp only [renC] at e
  split at e
  ·rename_i l hl
   cases e
   obtain ⟨k1, k2⟩ := renC_rep hf r l hl
   refine ⟨by simp [k1], fun j v hj h => ?_⟩
   cases j with
   | zero => exact h
   | succ j => exact k2 j v (by simpa using hj) h
  ·cases e
 | some i :: r, l', e => by
  simp only [renC] at e
  split at e
  ·rename_i k l hk hl
   cases e
   obtain ⟨k1, k2⟩ := renC_rep hf r l hl
   refine ⟨by simp [k1], fun j v hj h => ?_⟩
   cases j with
   | zero =>
    obtain ⟨g, h1, h2⟩ := h
    exact ⟨g, hf _ _ _ hk h1, h2⟩
   | succ j => exact k2 j v (by simpa using hj) h
  ·cases e
theorem renC_reps {ι' : Nat → Option Value} {f : Nat → Option Nat} (hf : ∀ i k v, f i = some k → ι i = some v → ι' k = some v) {l l' : List (Option Nat)} {vs : Array Value} (e : renC f l = some l') (h : RepCaps ι l vs) : RepCaps ι' l' vs := by
 obtain ⟨k1, k2⟩ := renC_rep hf l l' e
 exact ⟨by rw [h.1, k1], fun j hj => k2 j _ (by omega) (h.2 j (by omega))⟩
theorem ren1_rep {ι' : Nat → Option Value} {f : Nat → Option Nat} (hf : ∀ i k v, f i = some k → ι i = some v → ι' k = some v) {x : V} {v : Value} (hr : RepV1 ι imm w x v) : RepV1 ι' imm w (ren1 f x) v := by
 cases x with
 | d x => exact hr
 | agg cs => exact hr.elim
 | tup cs => exact hr.elim
 | nil => exact hr
 | fn g => exact hr
 | clo g a b =>
  simp only [ren1]
  split
  ·rename_i a' b' ha hb
   obtain ⟨fs, vs, h1, h2, h3⟩ := hr
   exact ⟨fs, vs, h1, renC_reps hf ha h2, renC_reps hf hb h3⟩
  ·trivial
 | junk => trivial
 | ip x off => exact hr
 | ptr i off =>
  simp only [ren1]
  split
  ·rename_i k hk
   obtain ⟨g, h1, h2⟩ := hr
   exact ⟨g, hf _ _ _ hk h1, h2⟩
  ·trivial
 | ept i sz l off =>
  simp only [ren1]
  split
  ·rename_i k hk
   obtain ⟨g, n, cap, h1, h2⟩ := hr
   exact ⟨g, n, cap, hf _ _ _ hk h1, h2⟩
  ·trivial
 | own i sz =>
  simp only [ren1]
  split
  ·rename_i k hk
   exact ⟨hf _ _ _ hk hr.1, hr.2⟩
  ·trivial
 | ref i sz off len =>
  simp only [ren1]
  split
  ·rename_i k hk
   rcases hr with ⟨g, n, cap, c, h1, h2⟩ | ⟨⟨u, h1⟩, h2⟩
   ·exact .inl ⟨g, n, cap, c, hf _ _ _ hk h1, h2⟩
   ·exact .inr ⟨⟨u, hf _ _ _ hk h1⟩, h2⟩
  ·trivial
theorem getD_map_ren1 (f : Nat → Option Nat) (cs : List V) (j : Nat) : (cs.map (ren1 f)).getD j .junk = ren1 f (cs.getD j .junk) := by
 simp only [List.getD_eq_getElem?_getD, List.getElem?_map]
 cases cs[j]? <;> rfl
theorem getD_map_ren0 (f : Nat → Option Nat) (cs : List V) (j : Nat) : (cs.map (ren0 f)).getD j .junk = ren0 f (cs.getD j .junk) := by
 simp only [List.getD_eq_getElem?_getD, List.getElem?_map]
 cases cs[j]? <;> rfl
theorem V0_of_V1' {ι : Nat → Option Value} {imm : Nat → Prop} {w : World} {x : V} {v : Value} (h : RepV1 ι imm w x v) : RepV0 ι imm w x v := by
 have := V0_of_V1 h
 cases x <;> first | exact this | exact h.elim
theorem ren0_rep {ι' : Nat → Option Value} {f : Nat → Option Nat} (hf : ∀ i k v, f i = some k → ι i = some v → ι' k = some v) {x : V} {v : Value} (hr : RepV0 ι imm w x v) : RepV0 ι' imm w (ren0 f x) v := by
 cases x with
 | d x => exact hr
 | agg cs =>
  obtain ⟨vs, h1, h2, h3⟩ := hr
  refine ⟨vs, h1, by simpa using h2, fun j hj => ?_⟩
  rw [getD_map_ren1]
  exact ⟨ren1_rep hf (h3 j (by simpa using hj)).1, (h3 j (by simpa using hj)).2⟩
 | tup cs => exact hr.elim
 | nil => exact hr
 | fn g => exact hr
 | clo g a b => exact V0_of_V1' (ren1_rep (x := .clo g a b) hf hr)
 | junk => trivial
 | ip x off => exact hr
 | ptr i off => exact V0_of_V1' (ren1_rep (x := .ptr i off) hf hr)
 | ept i sz l off => exact V0_of_V1' (ren1_rep (x := .ept i sz l off) hf hr)
 | own i sz => exact V0_of_V1' (ren1_rep (x := .own i sz) hf hr)
 | ref i sz off len => exact V0_of_V1' (ren1_rep (x := .ref i sz off len) hf hr)
theorem V_of_V0 {ι : Nat → Option Value} {imm : Nat → Prop} {w : World} {x : V} {v : Value} (h : RepV0 ι imm w x v) : RepV ι imm w x v := by
 cases x <;> first | exact h | exact h.elim
theorem ren_rep {ι' : Nat → Option Value} {f : Nat → Option Nat} (hf : ∀ i k v, f i = some k → ι i = some v → ι' k = some v) {x : V} {v : Value} (hr : RepV ι imm w x v) : RepV ι' imm w (ren f x) v := by
 cases x with
 | tup cs =>
  obtain ⟨vs, h1, h2, h3⟩ := hr
  refine ⟨vs, h1, by simpa using h2, fun j hj => ?_⟩
  rw [getD_map_ren0]
  exact ren0_rep hf (h3 j (by simpa using hj))
 | d x => exact V_of_V0 (ren0_rep (x := .d x) hf hr)
 | agg cs => exact V_of_V0 (ren0_rep (x := .agg cs) hf hr)
 | ptr i off => exact V_of_V0 (ren0_rep (x := .ptr i off) hf hr)
 | ept i sz l off => exact V_of_V0 (ren0_rep (x := .ept i sz l off) hf hr)
 | ip x off => exact hr
 | own i sz => exact V_of_V0 (ren0_rep (x := .own i sz) hf hr)
 | ref i sz off len => exact V_of_V0 (ren0_rep (x := .ref i sz off len) hf hr)
 | nil => exact hr
 | fn f => exact hr
 | clo g a b => exact V_of_V0 (ren0_rep (x := .clo g a b) hf hr)
 | junk => trivial
theorem renB_rep {ι' : Nat → Option Value} {f : Nat → Option Nat} (hf : ∀ i k v, f i = some k → ι i = some v → ι' k = some v) {B : Blk} {v : Value} (hr : BlkRep ι imm w B v) : BlkRep ι' imm w (renB f B) v := by
 cases B with
 | dead => trivial
 | row l e sz xs => cases l <;> exact hr
 | var cs =>
  obtain ⟨g, vs, T, h1, h2, h3, h4⟩ := hr
  refine ⟨g, vs, T, h1, h2, by simpa using h3, fun j hj => ?_⟩
  rw [getD_map_ren1]
  exact ⟨ren1_rep hf (h4 j (by simpa using hj)).1, (h4 j (by simpa using hj)).2⟩
theorem live_renB (f : Nat → Option Nat) (B : Blk) : live (renB f B) = live B := by cases B <;> rfl
def RepL (ι : Nat → Option Value) (imm : Nat → Prop) (w : World) (l : List V) (vs : Array Value) : Prop := vs.size = l.length ∧ ∀ j, j < l.length → RepV ι imm w (l.getD j .junk) (vs.getD j undef)
theorem RepL.append {l m : List V} {vs us : Array Value} (h1 : RepL ι imm w l vs) (h2 : RepL ι imm w m us) : RepL ι imm w (l ++ m) (vs ++ us) := by
 refine ⟨by rw [Array.size_append, List.length_append, h1.1, h2.1], fun j hj => ?_⟩
 rw [List.length_append] at hj
 by_cases c : j < l.length
 ·have e1 : (l ++ m).getD j .junk = l.getD j .junk := by simp [List.getD, List.getElem?_append, c]
  have e2 : (vs ++ us).getD j undef = vs.getD j undef := by
   have : j < vs.size := by rw [h1.1]; exact c
   simp [Array.getD_eq_getD_getElem?, Array.getElem?_append, this]
  rw [e1, e2]; exact h1.2 j c
 ·have e1 : (l ++ m).getD j .junk = m.getD (j - l.length) .junk := by simp [List.getD, List.getElem?_append, c]
  have e2 : (vs ++ us).getD j undef = us.getD (j - l.length) undef := by
   have : ¬ j < vs.size := by rw [h1.1]; exact c
   rw [Array.getD_eq_getD_getElem?, Array.getElem?_append, if_neg this, h1.1, Array.getD_eq_getD_getElem?]
  rw [e1, e2]; exact h2.2 _ (by omega)
theorem RepL.caps {l : List (Option Nat)} {vs : Array Value} (h : RepCaps ι l vs) : RepL ι imm w (l.map capV) vs := by
 refine ⟨by rw [List.length_map, h.1], fun j hj => ?_⟩
 have hj' : j < l.length := by simpa using hj
 have := h.2 j hj'
 have e : (l.map capV).getD j .junk = capV (l.getD j none) := by simp [List.getD, hj']
 rw [e]
 generalize l.getD j none = c at this ⊢
 cases c with
 | none =>
  have h' : vs.getD j undef = .pointer none := this
  rw [h']; exact RepC.np
 | some i =>
  obtain ⟨g, h1, h2⟩ := this
  exact ⟨g, h1, h2⟩
theorem fnOf_run (he : ∀ x, RepV ι imm w (ev x) (ρ x)) {f : Operand} {g : FuncId} {args : Array Operand} {ts : Array TypeId} {ls : List V} (ho : o.op = .call { callee := .value f, args := args, argTypes := ts }) (hf : fnOf (ev f) (args.toList.map ev) = some (g, ls)) :
  ∃ vs, (execOp ρ o).run P w = (callFunc g vs).run P w ∧ RepL ι imm w ls vs := by
 have hargs : RepL ι imm w (args.toList.map ev) (args.map ρ) := by
  refine ⟨by simp, fun j hj => ?_⟩
  have hja : j < args.size := by simpa using hj
  have e1 : (args.toList.map ev).getD j .junk = ev (args.toList.getD j (.const undef)) := by simp [List.getD, hja]
  have e2 : (args.map ρ).getD j undef = ρ (args.toList.getD j (.const undef)) := by simp [Array.getD, hja, List.getD]
  rw [e1, e2]; exact he _
 have h1 := he f
 unfold fnOf at hf
 split at hf
 ·rename_i g' hg
  cases hf
  rw [hg] at h1
  refine ⟨_, ?_, hargs⟩
  have h2 := repFn h1
  simp [execOp, ho, resolve, h2, Deferred.ofValue, invoke]
 ·rename_i g' a b hg
  cases hf
  rw [hg] at h1
  obtain ⟨fs, cs, h2, h3, h4⟩ := h1
  refine ⟨fs ++ args.map ρ ++ cs, ?_, ((RepL.caps h3).append hargs).append (RepL.caps h4)⟩
  simp [execOp, ho, resolve, h2, Deferred.ofValue, invoke]
 ·cases hf
theorem fnOf_rep (he : ∀ x, RepV ι imm w (ev x) (ρ x)) {f : Operand} {g : FuncId} {args : Array Operand} {ts : Array TypeId} {ls : List V} (hC : Callable P g) (ho : o.op = .call { callee := .value f, args := args, argTypes := ts }) (hf : fnOf (ev f) (args.toList.map ev) = some (g, ls)) :
  ∃ vs, (execOp ρ o).run P w = .ok (.enter g vs) w ∧ RepL ι imm w ls vs := by
 obtain ⟨vs, h1, h2⟩ := fnOf_run (P := P) he ho hf
 refine ⟨vs, ?_, h2⟩
 obtain ⟨fn, k1, k2, k3⟩ := hC
 have k2' : ¬ fn.name = "runtime.NumGoroutine" := by simpa using k2
 obtain ⟨c, hc⟩ : ∃ c, fn.body = some c := by
  cases hb : fn.body with
  | none => rw [hb] at k3; cases k3
  | some c => exact ⟨c, rfl⟩
 rw [h1]
 simp [callFunc, k1, k2', hc]
theorem toDs_ok : ∀ (l : List V) (ds : List D), toDs Ω h l = some ds → ds.length = l.length ∧ ∀ j, j < l.length → toD Ω h (l.getD j .junk) = some (ds.getD j .np)
 | [], ds, e => by cases e; exact ⟨rfl, fun j hj => absurd hj (Nat.not_lt_zero _)⟩
 | a :: r, ds, e => by
  simp only [toDs] at e
  split at e
  ·rename_i x l' ha hr'
   cases e
   obtain ⟨i1, i2⟩ := toDs_ok r l' hr'
   refine ⟨by simp [i1], fun j hj => ?_⟩
   cases j with
   | zero => exact ha
   | succ j => exact i2 j (by simpa using hj)
  ·cases e
theorem Inv.called (I : Inv ι imm h w) {imm' : Nat → Prop} {w' : World} {ι0 ι1 : Nat → Option Value} {h1 : Heap} (e : Evo ι0 imm (mkH []) w ι1 imm' h1 w') (I1 : Inv ι1 imm' h1 w') (ho : ∀ g, ¬ Owned ι0 (mkH []) g) :
  Inv ι imm' h w' ∧ Evo ι imm h w ι imm' h w' := by
 have keep : ∀ g, g < w.heap.size → w'.heap[g]? = w.heap[g]? := fun g hg => e.keep g hg (ho g)
 have immR : ∀ g, imm' g → imm g ∨ w.heap.size ≤ g := fun g hg => by
  rcases e.immR g hg with q | q | q
  ·exact .inl q
  ·exact .inr q
  ·exact absurd q (ho g)
 refine ⟨⟨fun id B hid => ?_, I.non, fun g o q => ?_, I.inj, I1.lt⟩, ⟨fun _ _ q => q, e.immS, fun g q => (immR g q).imp id .inl, fun g o => .inl o, fun g hg _ => keep g hg, e.size, e.os, e.tape, e.output⟩⟩
 ·obtain ⟨v, h1, h2⟩ := I.blk id B hid
  exact ⟨v, h1, h2.mono (fun _ _ q => q) (fun g hg => ⟨e.immS g hg, keep g (I.lt g hg)⟩) fun g a b => keep g (h2.lt a b)⟩
 ·rcases immR g q with q | q
  ·exact I.own g o q
  ·have := I.owned_lt o; omega
theorem mkH_nil (id : Nat) : mkH [] id = none := by simp [mkH]
theorem not_owned_nil (ι : Nat → Option Value) (g : Nat) : ¬ Owned ι (mkH []) g := by
 rintro ⟨id, B, v, h1, _⟩; rw [mkH_nil] at h1; cases h1
variable (I : Inv ι imm h w) (ok : EnvOk P E) (he : ∀ x, RepV ι imm w (ev x) (ρ x))
include I ok he
theorem op_callPure {f : Operand} {g : FuncId} {args : Array Operand} {ts : Array TypeId} (ho : o.op = .call { callee := .value f, args := args, argTypes := ts }) {ls : List V} (hf : fnOf (ev f) (args.toList.map ev) = some (g, ls)) {ds : List D}
  (hd : toDs Ω h ls = some ds) {r : V} (hC : E.C g ds r) (hK : K { v := r, upd := freezeL h (ls.flatMap idsOf), rd := ls.flatMap idsOf }) :
  OpDone P ι imm h w K ((execOp ρ o).run P w) := by
 obtain ⟨d1, d2⟩ := toDs_ok _ _ hd
 obtain ⟨imm1, I1, E1⟩ := Inv.freezeL (ls.flatMap idsOf) I
 rcases ok.C g ds r hC with ⟨hcall, hgood⟩ | ⟨_, _, _, ds', x, hds, rfl, hx⟩
 rotate_left
 ·obtain rfl : ds' = ds := by
   have := congrArg (List.map fun v : V => match v with | .d x => x | _ => .np) hds
   simpa [Function.comp_def] using this.symm
  obtain ⟨vs, hrun, hrep⟩ := fnOf_run (P := P) he ho hf
  obtain ⟨v, hv, hrx⟩ := hx imm1 w vs (by rw [hrep.1, d1]) fun j hj => by
   have hja : j < ls.length := by omega
   have := d2 j hja
   refine toD_rep I1 (fun i hi l e z xs hx => freezeL_done h _ i (List.mem_flatMap.2 ⟨ls.getD j .junk, ?_, hi⟩) l e z xs hx) ((hrep.2 j hja).evo I E1) this
   rw [List.getD_eq_getElem?_getD, List.getElem?_eq_getElem hja]
   exact List.getElem_mem hja
  exact .inl ⟨_, v, w, ι, imm1, .inl (hrun.trans hv), hK, E1, I1, hrx⟩
 obtain ⟨vs, hrun, hrep⟩ := fnOf_rep he hcall ho hf
 refine .inr ⟨g, vs, hrun, ?_⟩
 have I0 : Inv (fun _ => none) imm1 (mkH []) w := ⟨fun id B hid => (by rw [mkH_nil] at hid; cases hid), fun _ _ => rfl, fun g o => absurd o (not_owned_nil _ g), fun a b A B x y g h1 => (by rw [mkH_nil] at h1; cases h1), I1.lt⟩
 refine (hgood (fun _ => none) imm1 w vs I0 (by rw [hrep.1, List.length_map, d1]) (fun j hj => ?_)).mono ?_
 ·have hj' : j < ds.length := by simpa using hj
  have hja : j < ls.length := by omega
  have e1 : (ds.map V.d).getD j .junk = .d (ds.getD j .np) := by simp [List.getD, hj']
  have := d2 j hja
  rw [e1]
  refine toD_rep I1 (fun i hi l e z xs hx => freezeL_done h _ i (List.mem_flatMap.2 ⟨ls.getD j .junk, ?_, hi⟩) l e z xs hx) ((hrep.2 j hja).evo I E1) this
  rw [List.getD_eq_getElem?_getD, List.getElem?_eq_getElem hja]
  exact List.getElem_mem hja
 ·rintro e w' ⟨v, ι', imm', rfl, e2, I2, hr⟩
  obtain ⟨I3, E3⟩ := I1.called e2 I2 (not_owned_nil _)
  refine ⟨v, _, ι, imm', rfl, hK, E1.trans E3, I3, hr.mono (fun id v q => ?_) fun g hg => ⟨hg, rfl⟩⟩
  have := I2.non id (mkH_nil id)
  rw [this] at q; cases q
omit I ok he
theorem getAll_ok : ∀ (l : List Nat) (bs : List Blk), getAll h l = some bs → bs.length = l.length ∧ ∀ (j : Nat) (i : Nat), l[j]? = some i → ∃ B, bs[j]? = some B ∧ h i = some B
 | [], bs, e => by cases e; exact ⟨rfl, fun j i hj => by simp at hj⟩
 | a :: r, bs, e => by
  simp only [getAll] at e
  split at e
  ·rename_i x l' ha hr'
   cases e
   obtain ⟨i1, i2⟩ := getAll_ok r l' hr'
   refine ⟨by simp [i1], fun j i hj => ?_⟩
   cases j with
   | zero => simp at hj; subst hj; exact ⟨x, rfl, ha⟩
   | succ j => exact i2 j i (by simpa using hj)
  ·cases e
theorem nodupB_ok : ∀ (l : List Nat), nodupB l = true → l.Nodup
 | [], _ => List.nodup_nil
 | a :: r, e => by
  simp only [nodupB, Bool.and_eq_true, Bool.not_eq_true', List.contains_eq_mem, decide_eq_false_iff_not] at e
  exact List.nodup_cons.2 ⟨e.1, nodupB_ok r e.2⟩
theorem allNew_ok : ∀ (l : List Nat), allNew h l → ∀ i, i ∈ l → h i = none
 | [], _, i, hi => absurd hi List.not_mem_nil
 | a :: r, e, i, hi => by
  rcases List.mem_cons.1 hi with q | q
  ·subst q; exact e.1
  ·exact allNew_ok r e.2 i q
theorem newIds_nodup (id n : Nat) : (newIds id n).Nodup := by
 unfold newIds
 refine List.Pairwise.map _ (fun a b (hab : a ≠ b) => ?_) List.nodup_range
 omega
theorem ups_zip : ∀ (τ : List Nat) (bs : List Blk), τ.Nodup → τ.length = bs.length → ∀ i, (∀ j : Nat, τ[j]? = some i → ∃ B, bs[j]? = some B ∧ ups h (τ.zip bs) i = some B) ∧ (i ∉ τ → ups h (τ.zip bs) i = h i)
 | [], bs, _, _, i => ⟨fun j hj => by simp at hj, fun _ => rfl⟩
 | a :: r, [], _, hl, i => by cases hl
 | a :: r, b :: bs, hn, hl, i => by
  obtain ⟨n1, n2⟩ := List.nodup_cons.1 hn
  obtain ⟨k1, k2⟩ := ups_zip r bs n2 (by simpa using hl) i
  simp only [List.zip_cons_cons, ups]
  refine ⟨fun j hj => ?_, fun hi => ?_⟩
  ·cases j with
   | zero => simp at hj; subst hj; exact ⟨b, rfl, upd_same _ _ _⟩
   | succ j =>
    have hj' : r[j]? = some i := by simpa using hj
    obtain ⟨B, q1, q2⟩ := k1 j hj'
    have hne : i ≠ a := fun q => by subst q; exact n1 (List.mem_of_getElem? hj')
    exact ⟨B, by simpa using q1, by rw [upd_other _ _ _ _ hne]; exact q2⟩
  ·have hne : i ≠ a := fun q => by subst q; exact hi (by simp)
   rw [upd_other _ _ _ _ hne]
   exact k2 fun q => hi (by simp [q])
theorem fore_some {σ : List Nat} {i k : Nat} (hf : fore σ i = some k) : σ[k]? = some i := by
 unfold fore at hf
 rw [List.idxOf?, List.findIdx?_eq_some_iff_getElem] at hf
 obtain ⟨hk, h1, _⟩ := hf
 simp at h1
 rw [List.getElem?_eq_getElem hk, h1]
include I ok he
theorem op_callRef {f : Operand} {g : FuncId} {args : Array Operand} {ts : Array TypeId} (ho : o.op = .call { callee := .value f, args := args, argTypes := ts }) {ls : List V} (hf : fnOf (ev f) (args.toList.map ev) = some (g, ls)) {σ : List Nat} {bs : List Blk}
  (hb : getAll h σ = some bs) {r : V} {bs' : List Blk} (hC : E.C2 g (ls.map (ren (fore σ))) (bs.map (renB (fore σ))) r bs') {ns : List Nat} (hnew : allNew h ns) (hnd : ns.Nodup)
  (hlen : bs.length ≤ bs'.length) (hns : ns.length = bs'.length - bs.length) (hσ : nodupB σ = true)
  (hK : K { v := ren (back (σ ++ ns)) r, upd := (σ ++ ns).zip (bs'.map (renB (back (σ ++ ns)))), rd := σ ++ ns }) :
  OpDone P ι imm h w K ((execOp ρ o).run P w) := by
 obtain ⟨b1, b2⟩ := getAll_ok _ _ hb
 rcases ok.C2 g _ _ r bs' hC with ⟨hcall, hgood⟩ | ⟨x1, x2, _, ds, x, hds, rfl, hx⟩
 rotate_left
 ·obtain ⟨vs, hrun, hrep⟩ := fnOf_run (P := P) he ho hf
  have y1 : bs.length = 0 := by simpa using congrArg List.length x1
  have y2 : bs'.length = 0 := by rw [x2]; rfl
  have y3 : σ = [] := List.length_eq_zero_iff.1 (by omega)
  have y4 : ns = [] := List.length_eq_zero_iff.1 (by omega)
  subst y3 y4 x2
  have hl := congrArg List.length hds
  simp only [List.length_map] at hl
  obtain ⟨v, hv, hrx⟩ := hx imm w vs (by rw [hrep.1, hl]) fun j hj => by
   have hja : j < ls.length := by omega
   have e1 : (ls.map (ren (fore []))).getD j .junk = V.d (ds.getD j .np) := by rw [hds]; simp [List.getD, hj]
   have e2 : (ls.map (ren (fore []))).getD j .junk = ren (fore []) (ls.getD j .junk) := by simp [List.getD, hja]
   have e3 := hrep.2 j hja
   have e4 := e2.symm.trans e1
   revert e3 e4
   generalize ls.getD j .junk = u
   intro e3 e4
   cases u with
   | d y => cases e4; exact e3
   | clo f a b => simp only [ren, ren0, ren1] at e4; split at e4 <;> cases e4
   | _ => simp [ren, ren0, ren1, fore] at e4
  exact .inl (Done.val (v := v) (rd := []) I (hrun.trans hv) hK hrx)
 obtain ⟨vs, hrun, hrep⟩ := fnOf_rep he hcall ho hf
 have hsn := nodupB_ok _ hσ
 have hnone := allNew_ok _ hnew
 have hsome : ∀ (k : Nat) i, σ[k]? = some i → ∃ B v, bs[k]? = some B ∧ h i = some B ∧ ι i = some v ∧ BlkRep ι imm w B v := fun k i hk => by
  obtain ⟨B, q1, q2⟩ := b2 k i hk
  obtain ⟨v, q3, q4⟩ := I.blk i B q2
  exact ⟨B, v, q1, q2, q3, q4⟩
 have hdis : ∀ i, i ∈ σ → i ∉ ns := fun i a b => by
  obtain ⟨k, hk⟩ := List.mem_iff_getElem?.1 a
  obtain ⟨B, v, _, q, _⟩ := hsome k i hk
  rw [hnone i b] at q; cases q
 have hτn : (σ ++ ns).Nodup := List.nodup_append.2 ⟨hsn, hnd, fun a ha b hb hab => by subst hab; exact hdis a ha hb⟩
 have hτl : (σ ++ ns).length = bs'.length := by rw [List.length_append]; omega
 let ιc : Nat → Option Value := fun k => (σ[k]?).bind ι
 have hιc : ∀ i k v, fore σ i = some k → ι i = some v → ιc k = some v := fun i k v hf hv => by
  show (σ[k]?).bind ι = some v
  rw [fore_some hf]; exact hv
 have hmk : ∀ k B, mkH (bs.map (renB (fore σ))) k = some B → ∃ i B0 v, σ[k]? = some i ∧ h i = some B0 ∧ B = renB (fore σ) B0 ∧ ι i = some v ∧ ιc k = some v ∧ BlkRep ι imm w B0 v := fun k B hB => by
  simp only [mkH, List.getElem?_map] at hB
  cases hk : bs[k]? with
  | none => rw [hk] at hB; cases hB
  | some B0 =>
   rw [hk] at hB; cases hB
   have hlt : k < σ.length := by have := (List.getElem?_eq_some_iff.1 hk).1; omega
   have hki : σ[k]? = some σ[k] := List.getElem?_eq_getElem hlt
   obtain ⟨B1, v, q1, q2, q3, q4⟩ := hsome k _ hki
   rw [hk] at q1; cases q1
   exact ⟨_, _, v, hki, q2, rfl, q3, by show (σ[k]?).bind ι = some v; rw [hki]; exact q3, q4⟩
 have ownc : ∀ x, Owned ιc (mkH (bs.map (renB (fore σ)))) x → ∃ k i B0 v, σ[k]? = some i ∧ h i = some B0 ∧ live B0 = true ∧ ι i = some v ∧ blockOf v = some x ∧ ιc k = some v := fun x ⟨k, B, v, q1, q2, q3, q4⟩ => by
  obtain ⟨i, B0, v', p1, p2, rfl, p3, p4, _⟩ := hmk k B q1
  rw [p4] at q3; cases q3
  exact ⟨k, i, B0, _, p1, p2, (by rw [live_renB] at q2; exact q2), p3, q4, p4⟩
 have ownc' : ∀ x, Owned ιc (mkH (bs.map (renB (fore σ)))) x → Owned ι h x := fun x o => by
  obtain ⟨k, i, B0, v, _, p2, p3, p4, p5, _⟩ := ownc x o
  exact ⟨i, B0, v, p2, p3, p4, p5⟩
 have Ic : Inv ιc imm (mkH (bs.map (renB (fore σ)))) w := by
  refine ⟨fun k B hB => ?_, fun k hk => ?_, fun x o => I.own x (ownc' x o), ?_, I.lt⟩
  ·obtain ⟨i, B0, v, _, _, rfl, _, p4, p5⟩ := hmk k B hB
   exact ⟨v, p4, renB_rep hιc p5⟩
  ·show (σ[k]?).bind ι = none
   have : ¬ k < σ.length := fun q => by
    have : k < (bs.map (renB (fore σ))).length := by simp; omega
    simp only [mkH] at hk
    rw [List.getElem?_eq_getElem this] at hk; cases hk
   rw [List.getElem?_eq_none (by omega)]; rfl
  ·intro k1 k2 B1 B2 v1 v2 x q1 q2 l1 l2 e1 e2 g1 g2
   obtain ⟨i1, A1, u1, p1, p2, rfl, p3, p4, _⟩ := hmk k1 B1 q1
   obtain ⟨i2, A2, u2, r1, r2, rfl, r3, r4, _⟩ := hmk k2 B2 q2
   rw [p4] at e1; cases e1
   rw [r4] at e2; cases e2
   rw [live_renB] at l1 l2
   have := I.inj i1 i2 A1 A2 _ _ x p2 r2 l1 l2 p3 r3 g1 g2
   subst this
   have a1 := (List.getElem?_eq_some_iff.1 p1)
   have a2 := (List.getElem?_eq_some_iff.1 r1)
   obtain ⟨l1, a1⟩ := a1
   obtain ⟨l2, a2⟩ := a2
   exact (List.getElem_inj hsn).1 (a1.trans a2.symm)
 refine .inr ⟨g, vs, hrun, ?_⟩
 refine (hgood ιc imm w vs Ic (by rw [hrep.1, List.length_map]) (fun j hj => ?_)).mono ?_
 ·have hja : j < ls.length := by simpa using hj
  have e1 : (ls.map (ren (fore σ))).getD j .junk = ren (fore σ) (ls.getD j .junk) := by simp [List.getD, hja]
  rw [e1]
  exact ren_rep hιc (hrep.2 j hja)
 ·rintro e w' ⟨v, ι', imm', rfl, e2, I2, hr⟩
  have hι'σ : ∀ (k : Nat) i v, σ[k]? = some i → ι i = some v → ι' k = some v := fun k i v hk hv => e2.ids k v (by show (σ[k]?).bind ι = some v; rw [hk]; exact hv)
  let ι2 : Nat → Option Value := fun i => match fore ns i with
   | some k => ι' (bs.length + k)
   | none => ι i
  have fore_none : ∀ i, i ∉ ns → fore ns i = none := fun i hi => by
   unfold fore
   rw [List.idxOf?, List.findIdx?_eq_none_iff]
   intro x hx
   simp
   intro q; subst q; exact hi hx
  have hold : ∀ i, i ∉ ns → ι2 i = ι i := fun i hi => by show (match fore ns i with | some k => _ | none => _) = _; rw [fore_none i hi]
  have hmono : ∀ i v, ι i = some v → ι2 i = some v := fun i v hv => by
   rw [hold i fun q => by rw [I.non i (hnone i q)] at hv; cases hv]; exact hv
  have hback : ∀ k i v, back (σ ++ ns) k = some i → ι' k = some v → ι2 i = some v := fun k i v hk hv => by
   simp only [back] at hk
   by_cases c : k < σ.length
   ·rw [List.getElem?_append_left c] at hk
    obtain ⟨B, u, _, _, q3, _⟩ := hsome k i hk
    have := hι'σ k i u hk q3
    rw [hv] at this; cases this
    exact hmono i v q3
   ·rw [List.getElem?_append_right (by omega)] at hk
    have hf : fore ns i = some (k - σ.length) := by
     unfold fore
     rw [List.idxOf?, List.findIdx?_eq_some_iff_getElem]
     obtain ⟨hlt, he'⟩ := List.getElem?_eq_some_iff.1 hk
     refine ⟨hlt, by simp [he'], fun j hj => ?_⟩
     simp
     intro q
     have := (List.getElem_inj (h₀ := by omega) (h₁ := hlt) hnd).1 (q.trans he'.symm)
     omega
    show (match fore ns i with | some k => ι' (bs.length + k) | none => ι i) = some v
    rw [hf]
    show ι' (bs.length + (k - σ.length)) = some v
    rw [show bs.length + (k - σ.length) = k by omega]; exact hv
  have keepc : ∀ x, x < w.heap.size → ¬ Owned ιc (mkH (bs.map (renB (fore σ)))) x → w'.heap[x]? = w.heap[x]? := e2.keep
  have hH : ∀ i, (∀ k : Nat, (σ ++ ns)[k]? = some i → ∃ B, bs'[k]? = some B ∧ ups h ((σ ++ ns).zip (bs'.map (renB (back (σ ++ ns))))) i = some (renB (back (σ ++ ns)) B)) ∧ (i ∉ σ ++ ns → ups h ((σ ++ ns).zip (bs'.map (renB (back (σ ++ ns))))) i = h i) := fun i => by
   obtain ⟨k1, k2⟩ := ups_zip (h := h) (σ ++ ns) (bs'.map (renB (back (σ ++ ns)))) hτn (by simpa using hτl) i
   refine ⟨fun k hk => ?_, k2⟩
   obtain ⟨B, q1, q2⟩ := k1 k hk
   rw [List.getElem?_map] at q1
   cases hB : bs'[k]? with
   | none => rw [hB] at q1; cases q1
   | some B0 => rw [hB] at q1; cases q1; exact ⟨B0, rfl, q2⟩
  have hcase : ∀ i B, ups h ((σ ++ ns).zip (bs'.map (renB (back (σ ++ ns))))) i = some B → (∃ (k : Nat) (B0 : Blk) (v : Value), (σ ++ ns)[k]? = some i ∧ B = renB (back (σ ++ ns)) B0 ∧ mkH bs' k = some B0 ∧ ι' k = some v ∧ ι2 i = some v ∧ BlkRep ι' imm' w' B0 v) ∨
    (i ∉ σ ∧ i ∉ ns ∧ h i = some B) := fun i B hB => by
   by_cases c : i ∈ σ ++ ns
   ·obtain ⟨k, hk⟩ := List.mem_iff_getElem?.1 c
    obtain ⟨B0, q1, q2⟩ := (hH i).1 k hk
    rw [hB] at q2; cases q2
    obtain ⟨v, q3, q4⟩ := I2.blk k B0 q1
    exact .inl ⟨k, B0, v, hk, rfl, q1, q3, hback k i v hk q3, q4⟩
   ·rw [(hH i).2 c] at hB
    rw [List.mem_append, not_or] at c
    exact .inr ⟨c.1, c.2, hB⟩
  have apart : ∀ i B v x, i ∉ σ → h i = some B → live B = true → ι i = some v → blockOf v = some x → ¬ Owned ιc (mkH (bs.map (renB (fore σ)))) x := fun i B v x hi q1 q2 q3 q4 o => by
   obtain ⟨k, i', B0, v', p1, p2, p3, p4, p5, _⟩ := ownc x o
   have := I.inj i i' B B0 v v' x q1 p2 q2 p3 q3 p4 q4 p5
   subst this
   exact hi (List.mem_of_getElem? p1)
  have own2 : ∀ x, Owned ι2 (ups h ((σ ++ ns).zip (bs'.map (renB (back (σ ++ ns)))))) x → Owned ι' (mkH bs') x ∨ (∃ i B v, i ∉ σ ∧ i ∉ ns ∧ h i = some B ∧ live B = true ∧ ι i = some v ∧ blockOf v = some x) := fun x ⟨i, B, v, q1, q2, q3, q4⟩ => by
   rcases hcase i B q1 with ⟨k, B0, u, p1, rfl, p2, p3, p4, _⟩ | ⟨p1, p1', p2⟩
   ·rw [p4] at q3; cases q3
    exact .inl ⟨k, B0, _, p2, by rw [live_renB] at q2; exact q2, p3, q4⟩
   ·rw [hold i p1'] at q3
    exact .inr ⟨i, B, v, p1, p1', p2, q2, q3, q4⟩
  have notimm : ∀ i B v x, i ∉ σ → h i = some B → live B = true → ι i = some v → blockOf v = some x → ¬ imm' x := fun i B v x hi q1 q2 q3 q4 c => by
   rcases e2.immR x c with q | q | q
   ·exact I.own x ⟨i, B, v, q1, q2, q3, q4⟩ q
   ·have := I.owned_lt ⟨i, B, v, q1, q2, q3, q4⟩; omega
   ·exact apart i B v x hi q1 q2 q3 q4 q
  have hm : ∀ x, imm x → imm' x ∧ w'.heap[x]? = w.heap[x]? := fun x hx => ⟨e2.immS x hx, keepc x (I.lt x hx) fun o => I.own x (ownc' x o) hx⟩
  refine ⟨v, _, ι2, imm', rfl, hK, ⟨hmono, e2.immS, fun x hx => ?_, fun x o => ?_, fun x hx hn => keepc x hx fun o => hn (ownc' x o), e2.size, e2.os, e2.tape, e2.output⟩, ⟨fun i B hB => ?_, fun i hi => ?_, fun x o => ?_, ?_, I2.lt⟩, ?_⟩
  ·rcases e2.immR x hx with q | q | q
   ·exact .inl q
   ·exact .inr (.inl q)
   ·exact .inr (.inr (ownc' x q))
  ·rcases own2 x o with q | ⟨i, B, v, _, _, q1, q2, q3, q4⟩
   ·rcases e2.own' x q with q | q
    ·exact .inl (ownc' x q)
    ·exact .inr q
   ·exact .inl ⟨i, B, v, q1, q2, q3, q4⟩
  ·rcases hcase i B hB with ⟨k, B0, u, p1, rfl, p2, p3, p4, p5⟩ | ⟨p1, p1', p2⟩
   ·exact ⟨u, p4, renB_rep (fun a b c => hback a b c) p5⟩
   ·obtain ⟨u, q1, q2⟩ := I.blk i B p2
    exact ⟨u, hmono i u q1, q2.mono hmono hm fun x l b => keepc x (q2.lt l b) (apart i B u x p1 p2 l q1 b)⟩
  ·have c : i ∉ σ ++ ns := fun c => by
    obtain ⟨k, hk⟩ := List.mem_iff_getElem?.1 c
    obtain ⟨B0, _, q2⟩ := (hH i).1 k hk
    rw [hi] at q2; cases q2
   rw [(hH i).2 c] at hi
   rw [List.mem_append, not_or] at c
   rw [hold i c.2]; exact I.non i hi
  ·rcases own2 x o with q | ⟨i, B, v, q0, _, q1, q2, q3, q4⟩
   ·exact I2.own x q
   ·exact notimm i B v x q0 q1 q2 q3 q4
  ·intro i1 i2 B1 B2 v1 v2 x q1 q2 l1 l2 t1 t2 g1 g2
   have cross : ∀ (k : Nat) (B0 : Blk) (u : Value) j Bj uj, mkH bs' k = some B0 → live B0 = true → ι' k = some u → blockOf u = some x → j ∉ σ → h j = some Bj → live Bj = true → ι j = some uj → blockOf uj = some x → False := fun k B0 u j Bj uj a1 a2 a3 a4 c1 c2 c3 c4 c5 => by
    rcases e2.own' x ⟨k, B0, u, a1, a2, a3, a4⟩ with q | q
    ·exact apart j Bj uj x c1 c2 c3 c4 c5 q
    ·have := I.owned_lt ⟨j, Bj, uj, c2, c3, c4, c5⟩; omega
   rcases hcase i1 B1 q1 with ⟨k, B0, u, p1, rfl, p2, p3, p4, _⟩ | ⟨p1, p1', p2⟩
   ·rw [p4] at t1; cases t1
    rw [live_renB] at l1
    rcases hcase i2 B2 q2 with ⟨k', B0', u', p1', rfl, p2', p3', p4', _⟩ | ⟨r1, r1', r2⟩
    ·rw [p4'] at t2; cases t2
     rw [live_renB] at l2
     have := I2.inj k k' B0 B0' _ _ x p2 p2' l1 l2 p3 p3' g1 g2
     subst this
     rw [p1] at p1'; cases p1'; rfl
    ·rw [hold i2 r1'] at t2
     exact (cross k B0 _ i2 B2 v2 p2 l1 p3 g1 r1 r2 l2 t2 g2).elim
   ·rw [hold i1 p1'] at t1
    rcases hcase i2 B2 q2 with ⟨k', B0', u', r1, rfl, r2, r3, r4, _⟩ | ⟨r1, r1', r2⟩
    ·rw [r4] at t2; cases t2
     rw [live_renB] at l2
     exact (cross k' B0' _ i1 B1 v1 r2 l2 r3 g2 p1 p2 l1 t1 g1).elim
    ·rw [hold i2 r1'] at t2
     exact I.inj i1 i2 B1 B2 v1 v2 x p2 r2 l1 l2 t1 t2 g1 g2
  ·exact ren_rep (fun a b c => hback a b c) hr
end
theorem ups_zip_self {h : Heap} : ∀ (σ : List Nat) (bs : List Blk), getAll h σ = some bs → ups h (σ.zip bs) = h
 | [], bs, e => by cases e; rfl
 | i :: r, bs, e => by
  simp only [getAll] at e
  split at e
  ·rename_i b l hb hl
   cases e
   show upd (ups h (r.zip l)) i (some b) = h
   rw [ups_zip_self r l hl]
   funext t
   by_cases c : t = i
   ·subst c; rw [upd_same, hb]
   ·rw [upd_other _ _ _ _ c]
  ·cases e
theorem OpDone.map {P : Program} {ι : Nat → Option Value} {imm : Nat → Prop} {h : Heap} {w : World} {K K' : Out → Prop} {r : Result Next} (hK : ∀ out, K out → ∃ out', K' out' ∧ out'.v = out.v ∧ ups h out'.upd = ups h out.upd)
  (hd : OpDone P ι imm h w K r) : OpDone P ι imm h w K' r := by
 rcases hd with ⟨out, v, w', ι', imm', h1, h2, h3, h4, h5⟩ | ⟨g, vs, h1, h2⟩
 ·obtain ⟨out', k1, k2, k3⟩ := hK out h2
  exact .inl ⟨out', v, w', ι', imm', h1, k1, by rw [k3]; exact h3, by rw [k3]; exact h4, by rw [k2]; exact h5⟩
 ·refine .inr ⟨g, vs, h1, h2.mono fun e w' q => ?_⟩
  obtain ⟨v, out, ι', imm', q1, q2, q3, q4, q5⟩ := q
  obtain ⟨out', k1, k2, k3⟩ := hK out q2
  exact ⟨v, out', ι', imm', q1, k1, by rw [k3]; exact q3, by rw [k3]; exact q4, by rw [k2]; exact q5⟩
theorem capsOf_rep {ι : Nat → Option Value} {imm : Nat → Prop} {w : World} {ev : Operand → V} {ρ : Operand → Value} (he : ∀ x, RepV ι imm w (ev x) (ρ x)) : ∀ (l : List Operand) (c : List (Option Nat)), capsOf (l.map ev) = some c → c.length = l.length ∧ ∀ j, j < l.length → RepCap ι (c.getD j none) (ρ (l.getD j (.const undef)))
 | [], c, e => by cases e; exact ⟨rfl, fun j hj => absurd hj (Nat.not_lt_zero _)⟩
 | a :: r, c, e => by
  simp only [List.map_cons, capsOf] at e
  split at e
  ·rename_i x l hx hl
   cases e
   obtain ⟨k1, k2⟩ := capsOf_rep he r l hl
   refine ⟨by simp [k1], fun j hj => ?_⟩
   cases j with
   | zero =>
    have h := he a
    show RepCap ι x (ρ a)
    unfold capOf at hx
    split at hx
    ·rename_i i hv
     cases hx
     rw [hv] at h
     obtain ⟨g, h1, h2⟩ := h
     exact ⟨g, h1, h2⟩
    ·rename_i hv
     cases hx
     rw [hv] at h
     have h' : RepC imm w .np (ρ a) := h
     generalize ρ a = va at h' ⊢
     cases h'
     rfl
    ·cases hx
   | succ j => exact k2 j (by simpa using hj)
  ·cases e
theorem op_makeFunc {ι : Nat → Option Value} {imm : Nat → Prop} {h : Heap} {w : World} {K : Out → Prop} {P : Program} {E : Env} {draw : Bool} {ev : Operand → V} {ρ : Operand → Value} {o : Oper} {id : Nat} (I : Inv ι imm h w) (he : ∀ x, RepV ι imm w (ev x) (ρ x))
  {fn : Fn} {first captured : Array Operand} (ho : o.op = .makeFunc fn first captured) (hK : opR Ω E draw ev h o.op id K) : Done ι imm h w K ((execOp ρ o).run P w) := by
 rw [ho] at hK
 have key : ∀ (l : Array Operand) c, capsOf (l.toList.map ev) = some c → RepCaps ι c (l.map ρ) := fun l c e => by
  obtain ⟨k1, k2⟩ := capsOf_rep he _ _ e
  refine ⟨by rw [Array.size_map, k1, Array.length_toList], fun j hj => ?_⟩
  have hj' : j < l.toList.length := by omega
  have hja : j < l.size := by simpa using hj'
  have := k2 j hj'
  have e2 : (l.map ρ).getD j undef = ρ (l.toList.getD j (.const undef)) := by simp [Array.getD, hja, List.getD]
  rw [e2]; exact this
 simp only [opR] at hK
 split at hK
 ·rename_i g e1 e2
  have h1 := key _ _ e1
  have h2 := key _ _ e2
  have z1 : first.map ρ = #[] := Array.eq_empty_of_size_eq_zero h1.1
  have z2 : captured.map ρ = #[] := Array.eq_empty_of_size_eq_zero h2.1
  refine Done.val (v := .func (.func g) #[] #[]) I ?_ hK rfl
  simp [execOp, ho, Instr.makeFunc, z1, z2]
 ·rename_i g a b _ e1 e2
  exact Done.val (v := .func (.func g) (first.map ρ) (captured.map ρ)) I (by simp [execOp, ho, Instr.makeFunc]) hK ⟨_, _, rfl, key _ _ e1, key _ _ e2⟩
 ·exact hK.elim
end Go.K
end
section
namespace Go.K
open Go
section
variable {ι : Nat → Option Value} {imm : Nat → Prop} {h : Heap} {w : World} {K : Out → Prop}
variable {P : Program} {E : Env} {draw : Bool} {ev : Operand → V} {ρ : Operand → Value} {o : Oper} {id : Nat}
theorem op_sound (ok : EnvOk P E) (I : Inv ι imm h w) (he : ∀ x, RepV ι imm w (ev x) (ρ x)) (hK : opR Ω E draw ev h o.op id K) : OpDone P ι imm h w K ((execOp ρ o).run P w) := by
 have tt := ok.tt
 cases ho : o.op with
 | move x => exact .inl (op_move I he ho hK)
 | assign x => exact .inl (op_assign I he ho hK)
 | pick c a b => exact .inl (op_pick I he ho hK)
 | nilCheck x => exact .inl (op_nilCheck I he ho hK)
 | alloc T => exact .inl (op_alloc I tt he ho hK)
 | box T x => exact .inl (op_box I he ho hK)
 | store T x y => exact .inl (op_store I tt he ho hK)
 | load T x => exact .inl (op_load I tt he ho hK)
 | fieldAddr T x f => exact .inl (op_fieldAddr I tt he ho hK)
 | field T x f => exact .inl (op_field I tt he ho hK)
 | index T x y => exact .inl (op_index I tt he ho hK)
 | indexAddr T x y => exact .inl (op_indexAddr I tt he ho hK)
 | slice T x lo hi mx => exact .inl (op_slice I tt he ho hK)
 | build T parts => exact .inl (op_build I tt he ho hK)
 | buildSlice T len parts => exact .inl (op_buildSlice I tt he ho hK)
 | makeSlice T l c => exact .inl (op_makeSlice I tt he ho hK)
 | binOp op T x y U => exact .inl (op_binOp I tt he ho hK)
 | unOp op T x => exact .inl (op_unOp I tt he ho hK)
 | convert S T x => exact .inl (op_convert I tt he ok.la ho hK)
 | extract x k => exact .inl (op_extract I he ho hK)
 | makeInterface T x => exact .inl (op_makeInterface I tt he ho hK)
 | makeFunc fn first captured => exact .inl (op_makeFunc I he ho hK)
 | call c =>
  obtain ⟨callee, args, ts⟩ := c
  cases callee with
  | value f =>
   rw [ho] at hK
   simp only [opR, w_slen, w_sget, w_ssub, w_sset, w_srep, w_scat, BrG_eq, DK_eq, w_ci, w_iand, w_ior, w_ixor, w_ishl, w_ishr, w_wrap, w_tmod, w_lt, w_le, w_eq, w_ne, w_ile, w_ilt, w_tn, w_nadd, w_nsub, w_nlt, w_leb, w_room, w_imax, w_imin, w_bget, w_bext, w_bcat, w_bsz, w_beqs] at hK
   split at hK
   ·rename_i g ls hf
    split at hK
    ·rename_i hne
     exact .inl (op_neCall I he (ok.ne g hne) ho hf hK)
    split at hK
    ·split at hK
     ·split at hK
      ·rename_i bs hb
       obtain ⟨r, hC, hσ, hcl, hK⟩ := hK
       have h1 := (getAll_ok _ _ hb).1
       have := op_callRef I ok he ho hf hb hC (ns := []) (by trivial) List.nodup_nil (by simp) (by simp) hσ (K := fun out => out = { v := ren (back (reach h 40 (ls.flatMap vids) [] ++ [])) r, upd := (reach h 40 (ls.flatMap vids) [] ++ []).zip ((bs.map (renB (fore (reach h 40 (ls.flatMap vids) [])))).map (renB (back (reach h 40 (ls.flatMap vids) [] ++ [])))), rd := reach h 40 (ls.flatMap vids) [] ++ [] }) rfl
       refine this.map fun out e => ⟨_, hK, ?_, ?_⟩
       ·rw [e, List.append_nil]
       ·rw [e]
        simp only [List.append_nil, hcl]
        exact (ups_zip_self _ _ hb).symm
      ·exact hK.elim
     split at hK
     ·rename_i bs hb
      obtain ⟨r, bs', hC, hn, hl, hσ, hK⟩ := hK
      have h1 := (getAll_ok _ _ hb).1
      have hm := (ok.C2 g _ _ r bs' hC)
      exact op_callRef I ok he ho hf hb hC hn (newIds_nodup _ _) hl (by simp [newIds]) hσ hK
     ·exact hK.elim
    ·split at hK
     ·rename_i ds hd
      obtain ⟨r, hC, hK⟩ := hK
      exact op_callPure I ok he ho hf hd hC hK
     ·exact hK.elim
   ·exact hK.elim
  | invoke r m => rw [ho] at hK; simp only [opR, w_slen, w_sget, w_ssub, w_sset, w_srep, w_scat, BrG_eq, DK_eq, w_ci, w_iand, w_ior, w_ixor, w_ishl, w_ishr, w_wrap, w_tmod, w_lt, w_le, w_eq, w_ne, w_ile, w_ilt, w_tn, w_nadd, w_nsub, w_nlt, w_leb, w_room, w_imax, w_imin, w_bget, w_bext, w_bcat, w_bsz, w_beqs] at hK
  | builtin b =>
   cases b with
   | len => exact .inl (op_len I tt he ho hK)
   | append => exact .inl (op_append I tt he ho hK)
   | max => exact .inl (op_max I tt he ho hK)
   | min => exact .inl (op_min I tt he ho hK)
   | copy => exact .inl (op_copy I tt he ho hK)
   | unsafeSliceData => exact .inl (op_slData I tt he ho hK)
   | unsafeString => exact .inl (op_uString I tt he ho hK)
   | _ =>
    rw [ho] at hK; simp only [opR, w_slen, w_sget, w_ssub, w_sset, w_srep, w_scat, BrG_eq, DK_eq, w_ci, w_iand, w_ior, w_ixor, w_ishl, w_ishr, w_wrap, w_tmod, w_lt, w_le, w_eq, w_ne, w_ile, w_ilt, w_tn, w_nadd, w_nsub, w_nlt, w_leb, w_room, w_imax, w_imin, w_bget, w_bext, w_bcat, w_bsz, w_beqs] at hK
 | _ => rw [ho] at hK; simp only [opR, w_slen, w_sget, w_ssub, w_sset, w_srep, w_scat, BrG_eq, DK_eq, w_ci, w_iand, w_ior, w_ixor, w_ishl, w_ishr, w_wrap, w_tmod, w_lt, w_le, w_eq, w_ne, w_ile, w_ilt, w_tn, w_nadd, w_nsub, w_nlt, w_leb, w_room, w_imax, w_imin, w_bget, w_bext, w_bcat, w_bsz, w_beqs] at hK
theorem cmpPtr_ex {op : BinOp} {t : Bool} {K : Out → Prop} (hK : cmpPtr op t K) : ∃ out, cmpPtr op t (fun x => x = out) ∧ K out := by
 unfold cmpPtr at hK ⊢
 split at hK
 ·exact ⟨_, rfl, hK⟩
 ·exact ⟨_, rfl, hK⟩
 ·exact hK.elim
theorem opR_ex (hd : draw = true) (hK : opR Ω E draw ev h o.op id K) : ∃ out, opR Ω E draw ev h o.op id (fun x => x = out) ∧ K out := by
 subst hd
 cases ho : o.op with
 | pick c a b =>
  rw [ho] at hK
  simp only [opR, w_slen, w_sget, w_ssub, w_sset, w_srep, w_scat, BrG_eq, DK_eq, w_ci, w_iand, w_ior, w_ixor, w_ishl, w_ishr, w_wrap, w_tmod, w_lt, w_le, w_eq, w_ne, w_ile, w_ilt, w_tn, w_nadd, w_nsub, w_nlt, w_leb, w_room, w_imax, w_imin, w_bget, w_bext, w_bcat, w_bsz, w_beqs] at hK ⊢
  split at hK
  ·exact ⟨_, rfl, hK⟩
  ·exact hK.elim
 | unOp op T x =>
  rw [ho] at hK
  simp only [opR, w_slen, w_sget, w_ssub, w_sset, w_srep, w_scat, BrG_eq, DK_eq, w_ci, w_iand, w_ior, w_ixor, w_ishl, w_ishr, w_wrap, w_tmod, w_lt, w_le, w_eq, w_ne, w_ile, w_ilt, w_tn, w_nadd, w_nsub, w_nlt, w_leb, w_room, w_imax, w_imin, w_bget, w_bext, w_bcat, w_bsz, w_beqs] at hK ⊢
  split at hK
  ·exact ⟨_, rfl, hK⟩
  ·exact ⟨_, rfl, hK⟩
  ·exact ⟨_, rfl, hK⟩
  ·exact hK.elim
 | store T x y =>
  rw [ho] at hK
  simp only [opR] at hK ⊢
  split at hK
  ·split at hK
   ·split at hK
    ·obtain ⟨a1, a2, hK⟩ := hK; exact ⟨_, ⟨a1, a2, rfl⟩, hK⟩
    ·exact hK.elim
   ·exact hK.elim
  ·split at hK
   ·split at hK
    ·obtain ⟨a1, a2, a3, a4, hK⟩ := hK
     split at hK
     ·rename_i c
      refine ⟨_, ⟨a1, a2, a3, a4, ?_⟩, hK⟩
      rw [if_pos c]
     ·rename_i c
      obtain ⟨a5, x0, a6, hK⟩ := hK
      refine ⟨_, ⟨a1, a2, a3, a4, ?_⟩, hK⟩
      rw [if_neg c]
      exact ⟨a5, x0, a6, rfl⟩
    ·exact hK.elim
   ·exact hK.elim
  ·exact hK.elim
 | load T x =>
  rw [ho] at hK
  simp only [opR, w_slen, w_sget, w_ssub, w_sset, w_srep, w_scat, BrG_eq, DK_eq, w_ci, w_iand, w_ior, w_ixor, w_ishl, w_ishr, w_wrap, w_tmod, w_lt, w_le, w_eq, w_ne, w_ile, w_ilt, w_tn, w_nadd, w_nsub, w_nlt, w_leb, w_room, w_imax, w_imin, w_bget, w_bext, w_bcat, w_bsz, w_beqs] at hK ⊢
  split at hK
  ·split at hK
   ·obtain ⟨a1, a2, hK⟩ := hK; exact ⟨_, ⟨a1, a2, rfl⟩, hK⟩
   ·exact hK.elim
  ·split at hK
   ·obtain ⟨a1, x, a2, a3, a4, hK⟩ := hK; exact ⟨_, ⟨a1, x, a2, a3, a4, rfl⟩, hK⟩
   ·exact hK.elim
  ·obtain ⟨a1, a2, a3, hK⟩ := hK; exact ⟨_, ⟨a1, a2, a3, rfl⟩, hK⟩
  ·exact hK.elim
 | buildSlice T len parts =>
  rw [ho] at hK
  simp only [opR, w_slen, w_sget, w_ssub, w_sset, w_srep, w_scat, BrG_eq, DK_eq, w_ci, w_iand, w_ior, w_ixor, w_ishl, w_ishr, w_wrap, w_tmod, w_lt, w_le, w_eq, w_ne, w_ile, w_ilt, w_tn, w_nadd, w_nsub, w_nlt, w_leb, w_room, w_imax, w_imin, w_bget, w_bext, w_bcat, w_bsz, w_beqs] at hK ⊢
  split at hK
  ·split at hK
   ·split at hK
    ·split at hK
     ·obtain ⟨a1, a2, a3, a4, hK⟩ := hK
      cases hd : (true && !Nat.beq len 0) with
      | true =>
       simp only [hd, if_true] at hK ⊢
       exact ⟨_, ⟨a1, a2, a3, a4, rfl⟩, hK⟩
      | false =>
       simp only [hd, Bool.false_eq_true, if_false] at hK ⊢
       exact ⟨_, ⟨a1, a2, a3, a4, hK.1, rfl⟩, hK.2⟩
     ·exact hK.elim
    ·exact hK.elim
   ·exact hK.elim
  ·exact hK.elim
 | call c =>
  obtain ⟨callee, args, ts⟩ := c
  cases callee with
  | invoke r m => rw [ho] at hK; simp only [opR, w_slen, w_sget, w_ssub, w_sset, w_srep, w_scat, BrG_eq, DK_eq, w_ci, w_iand, w_ior, w_ixor, w_ishl, w_ishr, w_wrap, w_tmod, w_lt, w_le, w_eq, w_ne, w_ile, w_ilt, w_tn, w_nadd, w_nsub, w_nlt, w_leb, w_room, w_imax, w_imin, w_bget, w_bext, w_bcat, w_bsz, w_beqs] at hK
  | value f =>
   rw [ho] at hK
   simp only [opR, w_slen, w_sget, w_ssub, w_sset, w_srep, w_scat, BrG_eq, DK_eq, w_ci, w_iand, w_ior, w_ixor, w_ishl, w_ishr, w_wrap, w_tmod, w_lt, w_le, w_eq, w_ne, w_ile, w_ilt, w_tn, w_nadd, w_nsub, w_nlt, w_leb, w_room, w_imax, w_imin, w_bget, w_bext, w_bcat, w_bsz, w_beqs] at hK ⊢
   split at hK
   ·split at hK
    ·rename_i hne
     simp only [hne, if_true]
     unfold neCall at hK ⊢
     split at hK
     ·exact ⟨_, rfl, hK⟩
     ·exact hK.elim
    rename_i hne
    simp only [if_neg hne]
    split at hK
    ·rename_i hm
     simp only [hm, if_true]
     split at hK
     ·rename_i hr
      simp only [hr, if_true]
      split at hK
      ·obtain ⟨r, a1, a2, a3, hK⟩ := hK
       exact ⟨_, ⟨r, a1, a2, a3, rfl⟩, hK⟩
      ·exact hK.elim
     ·rename_i hr
      simp only [hr]
      split at hK
      ·obtain ⟨r, bs', a1, a2, a3, a4, hK⟩ := hK
       exact ⟨_, ⟨r, bs', a1, a2, a3, a4, rfl⟩, hK⟩
      ·exact hK.elim
    ·rename_i hm
     simp only [hm]
     split at hK
     ·obtain ⟨r, a1, hK⟩ := hK
      exact ⟨_, ⟨r, a1, rfl⟩, hK⟩
     ·exact hK.elim
   ·exact hK.elim
  | builtin b =>
   cases b with
   | len =>
    rw [ho] at hK
    simp only [opR, w_slen, w_sget, w_ssub, w_sset, w_srep, w_scat, BrG_eq, DK_eq, w_ci, w_iand, w_ior, w_ixor, w_ishl, w_ishr, w_wrap, w_tmod, w_lt, w_le, w_eq, w_ne, w_ile, w_ilt, w_tn, w_nadd, w_nsub, w_nlt, w_leb, w_room, w_imax, w_imin, w_bget, w_bext, w_bcat, w_bsz, w_beqs] at hK ⊢
    split at hK
    ·repeat' split at hK
     all_goals first
      | exact hK.elim
      | exact ⟨_, rfl, hK⟩
    all_goals first | exact hK.elim | contradiction
   | append =>
    rw [ho] at hK
    simp only [opR, w_slen, w_sget, w_ssub, w_sset, w_srep, w_scat, BrG_eq, DK_eq, w_ci, w_iand, w_ior, w_ixor, w_ishl, w_ishr, w_wrap, w_tmod, w_lt, w_le, w_eq, w_ne, w_ile, w_ilt, w_tn, w_nadd, w_nsub, w_nlt, w_leb, w_room, w_imax, w_imin, w_bget, w_bext, w_bcat, w_bsz, w_beqs] at hK ⊢
    split at hK
    ·rename_i q _ _; cases q
    ·split at hK
     ·split at hK
      ·split at hK
       ·unfold appStr at hK ⊢
        split at hK
        ·obtain ⟨a1, a2, a3, a4, hK⟩ := hK
         split at hK
         ·obtain ⟨a5, hK⟩ := hK
          exact ⟨_, ⟨a1, a2, a3, a4, a5, rfl⟩, hK⟩
         ·split at hK
          ·obtain ⟨b1, b2, b3, hK⟩ := hK
           exact ⟨_, ⟨a1, a2, a3, a4, b1, b2, b3, rfl⟩, hK⟩
          ·exact hK.elim
         ·exact hK.elim
        ·exact hK.elim
       obtain ⟨a1, a2, a3, hK⟩ := hK
       split at hK
       ·obtain ⟨a4, a5, hK⟩ := hK
        split at hK
        ·obtain ⟨a6, hK⟩ := hK
         exact ⟨_, ⟨a1, a2, a3, a4, a5, a6, rfl⟩, hK⟩
        ·split at hK
         ·obtain ⟨b1, b2, b3, b4, hK⟩ := hK
          exact ⟨_, ⟨a1, a2, a3, a4, a5, b1, b2, b3, b4, rfl⟩, hK⟩
         ·exact hK.elim
        ·exact hK.elim
       ·exact hK.elim
      ·exact hK.elim
     ·exact hK.elim
    all_goals first | exact hK.elim | contradiction
   | unsafeSliceData =>
    rw [ho] at hK
    simp only [opR] at hK ⊢
    repeat' split at hK
    all_goals first
     | exact hK.elim
     | contradiction
     | exact ⟨_, rfl, hK⟩
     | (obtain ⟨a1, a2, a3, hK⟩ := hK; exact ⟨_, ⟨a1, a2, a3, rfl⟩, hK⟩)
   | unsafeString =>
    rw [ho] at hK
    simp only [opR] at hK ⊢
    repeat' split at hK
    all_goals first
     | exact hK.elim
     | contradiction
     | (obtain ⟨a1, hK⟩ := hK; exact ⟨_, ⟨a1, rfl⟩, hK⟩)
     | (obtain ⟨a1, a2, a3, a4, a5, hK⟩ := hK; exact ⟨_, ⟨a1, a2, a3, a4, a5, rfl⟩, hK⟩)
   | max =>
    rw [ho] at hK
    simp only [opR] at hK ⊢
    split at hK
    ·obtain ⟨a1, hK⟩ := hK; exact ⟨_, ⟨a1, rfl⟩, hK⟩
    ·exact hK.elim
   | min =>
    rw [ho] at hK
    simp only [opR] at hK ⊢
    split at hK
    ·obtain ⟨a1, hK⟩ := hK; exact ⟨_, ⟨a1, rfl⟩, hK⟩
    ·exact hK.elim
   | copy =>
    rw [ho] at hK
    simp only [opR] at hK
    cases hK.1
   | _ => rw [ho] at hK; simp only [opR, w_slen, w_sget, w_ssub, w_sset, w_srep, w_scat, BrG_eq, DK_eq, w_ci, w_iand, w_ior, w_ixor, w_ishl, w_ishr, w_wrap, w_tmod, w_lt, w_le, w_eq, w_ne, w_ile, w_ilt, w_tn, w_nadd, w_nsub, w_nlt, w_leb, w_room, w_imax, w_imin, w_bget, w_bext, w_bcat, w_bsz, w_beqs] at hK
 | slice T x lo hi mx =>
  rw [ho] at hK
  simp only [opR] at hK ⊢
  by_cases c : lo = none ∧ mx.isSome = true
  ·simp only [if_pos c] at hK ⊢
   repeat' split at hK
   all_goals first
    | exact hK.elim
    | (obtain ⟨a1, a2, a3, a4, hK⟩ := hK; exact ⟨_, ⟨a1, a2, a3, a4, rfl⟩, hK⟩)
    | (obtain ⟨a1, a2, a3, a4, a5, hK⟩ := hK; exact ⟨_, ⟨a1, a2, a3, a4, a5, rfl⟩, hK⟩)
    | (obtain ⟨a1, a2, a3, a4, a5, a6, hK⟩ := hK; exact ⟨_, ⟨a1, a2, a3, a4, a5, a6, rfl⟩, hK⟩)
    | (obtain ⟨a1, a2, a3, a4, a5, a6, a7, hK⟩ := hK; exact ⟨_, ⟨a1, a2, a3, a4, a5, a6, a7, rfl⟩, hK⟩)
  ·simp only [if_neg c] at hK ⊢
   repeat' split at hK
   all_goals first
    | exact hK.elim
    | (obtain ⟨a1, a2, a3, a4, hK⟩ := hK; exact ⟨_, ⟨a1, a2, a3, a4, rfl⟩, hK⟩)
    | (obtain ⟨a1, a2, a3, a4, a5, hK⟩ := hK; exact ⟨_, ⟨a1, a2, a3, a4, a5, rfl⟩, hK⟩)
    | (obtain ⟨a1, a2, a3, a4, a5, a6, hK⟩ := hK; exact ⟨_, ⟨a1, a2, a3, a4, a5, a6, rfl⟩, hK⟩)
    | (obtain ⟨a1, a2, a3, a4, a5, a6, a7, hK⟩ := hK; exact ⟨_, ⟨a1, a2, a3, a4, a5, a6, a7, rfl⟩, hK⟩)
 | _ =>
  rw [ho] at hK
  simp only [opR, w_slen, w_sget, w_ssub, w_sset, w_srep, w_scat, BrG_eq, DK_eq, w_ci, w_iand, w_ior, w_ixor, w_ishl, w_ishr, w_wrap, w_tmod, w_lt, w_le, w_eq, w_ne, w_ile, w_ilt, w_tn, w_nadd, w_nsub, w_nlt, w_leb, w_room, w_imax, w_imin, w_bget, w_bext, w_bcat, w_bsz, w_beqs] at hK ⊢
  repeat' split at hK
  all_goals first
   | exact hK.elim
   | exact ⟨_, rfl, hK⟩
   | (obtain ⟨a1, hK⟩ := hK; exact ⟨_, ⟨a1, rfl⟩, hK⟩)
   | (obtain ⟨a1, a2, hK⟩ := hK; exact ⟨_, ⟨a1, a2, rfl⟩, hK⟩)
   | (obtain ⟨a1, a2, a3, hK⟩ := hK; exact ⟨_, ⟨a1, a2, a3, rfl⟩, hK⟩)
   | (obtain ⟨a1, a2, a3, a4, hK⟩ := hK; exact ⟨_, ⟨a1, a2, a3, a4, rfl⟩, hK⟩)
   | (obtain ⟨a1, a2, a3, a4, a5, hK⟩ := hK; exact ⟨_, ⟨a1, a2, a3, a4, a5, rfl⟩, hK⟩)
   | (obtain ⟨a1, a2, a3, a4, a5, a6, hK⟩ := hK; exact ⟨_, ⟨a1, a2, a3, a4, a5, a6, rfl⟩, hK⟩)
   | (obtain ⟨a1, a2, a3, a4, a5, a6, a7, hK⟩ := hK; exact ⟨_, ⟨a1, a2, a3, a4, a5, a6, a7, rfl⟩, hK⟩)
   | (obtain ⟨a1, a2, a3, a4, a5, a6, a7, a8, hK⟩ := hK; exact ⟨_, ⟨a1, a2, a3, a4, a5, a6, a7, a8, rfl⟩, hK⟩)
   | (obtain ⟨a1, x, a2, hK⟩ := hK; exact ⟨_, ⟨a1, x, a2, rfl⟩, hK⟩)
   | (obtain ⟨a1, x, a2, a3, hK⟩ := hK; exact ⟨_, ⟨a1, x, a2, a3, rfl⟩, hK⟩)
   | (obtain ⟨a1, a2, hK⟩ := hK; obtain ⟨out, k1, k2⟩ := cmpPtr_ex hK; exact ⟨out, ⟨a1, a2, k1⟩, k2⟩)
   | (obtain ⟨a1, hK⟩ := hK; obtain ⟨out, k1, k2⟩ := cmpPtr_ex hK; exact ⟨out, ⟨a1, k1⟩, k2⟩)
   | (cases hK.1)
   | exact hK.2.elim
theorem idsOf_constV (z : Value) : idsOf (constV z) = [] := by
 have one : ∀ y, ids1 (const1 y) = [] := fun y => by
  unfold const1; split <;> rfl
 unfold constV
 split
 ·split
  ·simp only [idsOf]
   rename_i cs _
   have : ∀ l : List Value, (l.map const1).flatMap ids1 = [] := fun l => by
    induction l with
    | nil => rfl
    | cons a r ih => simp only [List.map_cons, List.flatMap_cons, one, ih, List.append_nil]
   exact this _
  ·rfl
 ·rename_i v hv
  have h0 := one z
  generalize hq : const1 z = q at h0
  cases q with
  | agg cs => exfalso; unfold const1 at hq; split at hq <;> cases hq
  | _ => exact h0
theorem toD1_local {h2 : Heap} {x : V} (ha : ∀ j, j ∈ ids1 x → h2 j = h j) : toD1 Ω h2 x = toD1 Ω h x := by
 cases x with
 | own i sz => simp only [toD1, ha i (by simp [ids1])]
 | ref i sz off len => simp only [toD1, ha i (by simp [ids1])]
 | _ => rfl
theorem allD_local {h2 : Heap} : ∀ (l : List V), (∀ j, j ∈ l.flatMap ids1 → h2 j = h j) → allD Ω h2 l = allD Ω h l
 | [], _ => rfl
 | a :: r, ha => by
  simp only [allD]
  rw [toD1_local fun j hj => ha j (by simp [hj]), allD_local r fun j hj => ha j (by simp only [List.flatMap_cons, List.mem_append]; exact .inr hj)]
theorem toD_local {h2 : Heap} {x : V} (ha : ∀ j, j ∈ idsOf x → h2 j = h j) : toD Ω h2 x = toD Ω h x := by
 cases x with
 | agg cs => simp only [toD, allD_local cs ha]
 | own i sz => exact toD1_local (x := .own i sz) ha
 | ref i sz off len => exact toD1_local (x := .ref i sz off len) ha
 | _ => rfl
theorem toDs_local {h2 : Heap} : ∀ (l : List V), (∀ j, j ∈ l.flatMap idsOf → h2 j = h j) → toDs Ω h2 l = toDs Ω h l
 | [], _ => rfl
 | a :: r, ha => by
  simp only [toDs]
  rw [toD_local fun j hj => ha j (by simp [hj]), toDs_local r fun j hj => ha j (by simp only [List.flatMap_cons, List.mem_append]; exact .inr hj)]
theorem partsD_local {h2 : Heap} : ∀ (l : List (Nat × V)), (∀ j, j ∈ (l.map Prod.snd).flatMap idsOf → h2 j = h j) → partsD Ω h2 l = partsD Ω h l
 | [], _ => rfl
 | (i, a) :: r, ha => by
  simp only [partsD]
  rw [toD_local fun j hj => ha j (by simp [hj]), partsD_local r fun j hj => ha j (by simp only [List.map_cons, List.flatMap_cons, List.mem_append]; exact .inr hj)]
theorem freezeL_local {h2 : Heap} : ∀ (l : List Nat), (∀ j, j ∈ l → h2 j = h j) → freezeL h2 l = freezeL h l
 | [], _ => rfl
 | a :: r, ha => by
  simp only [freezeL]
  rw [ha a (by simp), freezeL_local r fun j hj => ha j (by simp [hj])]
theorem getAll_local {h2 : Heap} : ∀ (l : List Nat), (∀ j, j ∈ l → h2 j = h j) → getAll h2 l = getAll h l
 | [], _ => rfl
 | a :: r, ha => by
  simp only [getAll]
  rw [ha a (by simp), getAll_local r fun j hj => ha j (by simp [hj])]
theorem allNew_local {h2 : Heap} : ∀ (l : List Nat), (∀ j, j ∈ l → h2 j = h j) → allNew h l → allNew h2 l
 | [], _, _ => trivial
 | a :: r, ha, hn => ⟨(ha a (by simp)).trans hn.1, allNew_local r (fun j hj => ha j (by simp [hj])) hn.2⟩
theorem reach_mono {h2 : Heap} : ∀ (n : Nat) (l acc : List Nat), ∀ j, j ∈ acc → j ∈ reach h n l acc
 | 0, _, _, _, hj => hj
 | _ + 1, [], _, _, hj => hj
 | n + 1, i :: r, acc, j, hj => by
  simp only [reach]
  split
  ·exact reach_mono (h2 := h2) n r acc j hj
  ·split
   ·exact reach_mono (h2 := h2) n _ _ j (by simp [hj])
   ·exact reach_mono (h2 := h2) n _ _ j (by simp [hj])
theorem reach_local {h2 : Heap} : ∀ (n : Nat) (l acc : List Nat), (∀ j, j ∈ reach h n l acc → h2 j = h j) → reach h2 n l acc = reach h n l acc
 | 0, _, _, _ => rfl
 | _ + 1, [], _, _ => rfl
 | n + 1, i :: r, acc, ha => by
  simp only [reach] at ha ⊢
  by_cases c : acc.contains i = true
  ·simp only [if_pos c] at ha ⊢
   exact reach_local n r acc ha
  ·simp only [if_neg c] at ha ⊢
   have hi : h2 i = h i := by
    refine ha i ?_
    split
    ·exact reach_mono (h2 := h2) n _ _ i (by simp)
    ·exact reach_mono (h2 := h2) n _ _ i (by simp)
   rw [hi]
   split
   ·rename_i cs hcs
    refine reach_local n _ _ fun j hj => ha j ?_
    rw [hcs]; exact hj
   ·rename_i hne
    refine reach_local n _ _ fun j hj => ha j ?_
    split
    ·rename_i hcs; exact absurd hcs (hne _ _)
    ·exact hj
theorem opR_local {h2 : Heap} {out : Out} (hK : opR Ω E draw ev h o.op id (fun x => x = out)) (ha : ∀ j, j ∈ out.rd → h2 j = h j) : opR Ω E draw ev h2 o.op id (fun x => x = out) := by
 cases ho : o.op with
 | alloc T =>
  rw [ho] at hK
  simp only [opR, w_slen, w_sget, w_ssub, w_sset, w_srep, w_scat, BrG_eq, DK_eq, w_ci, w_iand, w_ior, w_ixor, w_ishl, w_ishr, w_wrap, w_tmod, w_lt, w_le, w_eq, w_ne, w_ile, w_ilt, w_tn, w_nadd, w_nsub, w_nlt, w_leb, w_room, w_imax, w_imin, w_bget, w_bext, w_bcat, w_bsz, w_beqs] at hK ⊢
  split at hK
  ·split at hK
   ·obtain ⟨a1, rfl⟩ := hK
    exact ⟨(ha id (by simp)).trans a1, rfl⟩
   ·exact hK.elim
  ·exact hK.elim
 | box T x =>
  rw [ho] at hK
  simp only [opR, w_slen, w_sget, w_ssub, w_sset, w_srep, w_scat, BrG_eq, DK_eq, w_ci, w_iand, w_ior, w_ixor, w_ishl, w_ishr, w_wrap, w_tmod, w_lt, w_le, w_eq, w_ne, w_ile, w_ilt, w_tn, w_nadd, w_nsub, w_nlt, w_leb, w_room, w_imax, w_imin, w_bget, w_bext, w_bcat, w_bsz, w_beqs] at hK ⊢
  split at hK
  ·obtain ⟨a1, rfl⟩ := hK
   exact ⟨(ha id (by simp)).trans a1, rfl⟩
  ·exact hK.elim
 | store T x y =>
  rw [ho] at hK
  simp only [opR, w_slen, w_sget, w_ssub, w_sset, w_srep, w_scat, BrG_eq, DK_eq, w_ci, w_iand, w_ior, w_ixor, w_ishl, w_ishr, w_wrap, w_tmod, w_lt, w_le, w_eq, w_ne, w_ile, w_ilt, w_tn, w_nadd, w_nsub, w_nlt, w_leb, w_room, w_imax, w_imin, w_bget, w_bext, w_bcat, w_bsz, w_beqs] at hK ⊢
  split at hK
  ·split at hK
   ·rename_i hj
    split at hK
    ·obtain ⟨a1, a2, rfl⟩ := hK
     have := ha _ (List.Mem.head _)
     simp only [this, hj]
     exact ⟨a1, a2, trivial⟩
    ·exact hK.elim
   ·exact hK.elim
  ·split at hK
   ·rename_i hj
    split at hK
    ·rename_i hy
     obtain ⟨a1, a2, a3, a4, hK⟩ := hK
     split at hK
     ·rename_i c
      subst hK
      have h1 := ha _ (List.Mem.head _)
      have h2' : toD Ω h2 (ev y) = toD Ω h (ev y) := toD_local fun j hj => ha j (List.Mem.tail _ hj)
      have h3 : freezeL h2 (idsOf (ev y)) = freezeL h (idsOf (ev y)) := freezeL_local _ fun j hj => ha j (List.Mem.tail _ hj)
      simp only [h1, hj, h2', hy, h3, if_pos c]
      exact ⟨a1, a2, a3, a4, trivial⟩
     ·rename_i c
      obtain ⟨a5, x0, a6, rfl⟩ := hK
      have h1 := ha _ (List.Mem.head _)
      have h2' : toD Ω h2 (ev y) = toD Ω h (ev y) := toD_local fun j hj => ha j (List.Mem.tail _ hj)
      have h3 : freezeL h2 (idsOf (ev y)) = freezeL h (idsOf (ev y)) := freezeL_local _ fun j hj => ha j (List.Mem.tail _ hj)
      simp only [h1, hj, h2', hy, h3, if_neg c]
      exact ⟨a1, a2, a3, a4, a5, x0, a6, rfl⟩
    ·exact hK.elim
   ·exact hK.elim
  ·exact hK.elim
 | load T x =>
  rw [ho] at hK
  simp only [opR, w_slen, w_sget, w_ssub, w_sset, w_srep, w_scat, BrG_eq, DK_eq, w_ci, w_iand, w_ior, w_ixor, w_ishl, w_ishr, w_wrap, w_tmod, w_lt, w_le, w_eq, w_ne, w_ile, w_ilt, w_tn, w_nadd, w_nsub, w_nlt, w_leb, w_room, w_imax, w_imin, w_bget, w_bext, w_bcat, w_bsz, w_beqs] at hK ⊢
  split at hK
  ·split at hK
   ·rename_i hj
    obtain ⟨a1, a2, rfl⟩ := hK
    have := ha _ (List.Mem.head _)
    simp only [this, hj]
    exact ⟨a1, a2, trivial⟩
   ·exact hK.elim
  ·split at hK
   ·rename_i hj
    obtain ⟨a1, x, a2, a3, a4, rfl⟩ := hK
    have := ha _ (List.Mem.head _)
    simp only [this, hj]
    exact ⟨a1, x, a2, a3, a4, rfl⟩
   ·exact hK.elim
  ·exact hK
  ·exact hK.elim
 | indexAddr T x y =>
  rw [ho] at hK
  simp only [opR, w_slen, w_sget, w_ssub, w_sset, w_srep, w_scat, BrG_eq, DK_eq, w_ci, w_iand, w_ior, w_ixor, w_ishl, w_ishr, w_wrap, w_tmod, w_lt, w_le, w_eq, w_ne, w_ile, w_ilt, w_tn, w_nadd, w_nsub, w_nlt, w_leb, w_room, w_imax, w_imin, w_bget, w_bext, w_bcat, w_bsz, w_beqs] at hK ⊢
  split at hK
  ·exact hK
  ·split at hK
   ·split at hK
    ·exact hK
    ·split at hK
     ·rename_i hj
      obtain ⟨a1, a2, a3, a4, rfl⟩ := hK
      have := ha _ (List.Mem.head _)
      simp only [this, hj]
      exact ⟨a1, a2, a3, a4, trivial⟩
     ·exact hK.elim
    ·exact hK
    ·exact hK.elim
   ·exact hK.elim
  ·exact hK.elim
 | slice T x lo hi mx =>
  rw [ho] at hK
  simp only [opR, w_slen, w_sget, w_ssub, w_sset, w_srep, w_scat, BrG_eq, DK_eq, w_ci, w_iand, w_ior, w_ixor, w_ishl, w_ishr, w_wrap, w_tmod, w_lt, w_le, w_eq, w_ne, w_ile, w_ilt, w_tn, w_nadd, w_nsub, w_nlt, w_leb, w_room, w_imax, w_imin, w_bget, w_bext, w_bcat, w_bsz, w_beqs] at hK ⊢
  split at hK
  ·split at hK
   ·split at hK
    ·exact hK
    ·split at hK
     ·rename_i hj
      split at hK
      ·rename_i c
       split at hK
       ·rename_i q1 q2
        obtain ⟨a1, a2, a3, a4, a5, a6, a7, rfl⟩ := hK
        have g1 := ha _ (List.Mem.head _)
        have g2 := ha _ (List.Mem.tail _ (List.Mem.head _))
        simp only [g2, hj, if_pos c, q1, q2]
        exact ⟨a1, a2, a3, a4, a5, a6, g1.trans a7, trivial⟩
       ·exact hK.elim
      ·rename_i c
       split at hK
       ·rename_i q1 q2 q3
        obtain ⟨a1, a2, a3, a4, a5, a6, a7, rfl⟩ := hK
        have := ha _ (List.Mem.head _)
        simp only [this, hj, if_neg c, q1, q2, q3]
        exact ⟨a1, a2, a3, a4, a5, a6, a7, trivial⟩
       ·exact hK.elim
     ·exact hK.elim
    ·exact hK
    ·exact hK.elim
   ·exact hK.elim
  ·split at hK
   ·split at hK
    ·rename_i hj
     split at hK
     ·rename_i q1 q2 q3
      obtain ⟨a1, a2, a3, a4, a5, a6, rfl⟩ := hK
      have := ha _ (List.Mem.head _)
      simp only [this, hj, q1, q2, q3]
      exact ⟨a1, a2, a3, a4, a5, a6, trivial⟩
     ·exact hK.elim
    ·exact hK.elim
   ·exact hK.elim
  ·exact hK
  ·exact hK.elim
 | convert S T x =>
  rw [ho] at hK
  simp only [opR] at hK ⊢
  split at hK
  ·exact hK
  ·exact hK
  ·split at hK
   ·obtain ⟨a1, a2, rfl⟩ := hK
    exact ⟨(ha _ (List.Mem.head _)).trans a1, a2, rfl⟩
   ·exact hK.elim
  ·split at hK
   ·rename_i q1 q2
    obtain ⟨a1, rfl⟩ := hK
    have hy : toD Ω h2 (ev x) = toD Ω h (ev x) := toD_local fun j hj => ha j hj
    have h3 : freezeL h2 (idsOf (ev x)) = freezeL h (idsOf (ev x)) := freezeL_local _ fun j hj => ha j hj
    simp only [hy, h3, q1, q2]
    exact ⟨a1, trivial⟩
   ·exact hK.elim
  ·split at hK
   ·rename_i q1 q2
    obtain ⟨a1, a2, rfl⟩ := hK
    have := ha _ (List.Mem.head _)
    simp only [this, q1, q2]
    exact ⟨a1, a2, trivial⟩
   ·exact hK.elim
  ·split at hK
   ·rename_i q1 q2
    split at hK
    ·rename_i q3
     obtain ⟨a1, a2, a3, a4, a5, rfl⟩ := hK
     have := ha _ (List.Mem.head _)
     simp only [this, q1, q2, q3]
     exact ⟨a1, a2, a3, a4, a5, trivial⟩
    ·exact hK.elim
   ·exact hK.elim
  ·exact hK.elim
 | buildSlice T len parts =>
  rw [ho] at hK
  simp only [opR, w_slen, w_sget, w_ssub, w_sset, w_srep, w_scat, BrG_eq, DK_eq, w_ci, w_iand, w_ior, w_ixor, w_ishl, w_ishr, w_wrap, w_tmod, w_lt, w_le, w_eq, w_ne, w_ile, w_ilt, w_tn, w_nadd, w_nsub, w_nlt, w_leb, w_room, w_imax, w_imin, w_bget, w_bext, w_bcat, w_bsz, w_beqs] at hK ⊢
  split at hK
  ·split at hK
   ·split at hK
    ·rename_i q1
     split at hK
     ·rename_i q2
      obtain ⟨a1, a2, a3, a4, hK⟩ := hK
      have key : (∀ j, j ∈ (parts.toList.map fun p => ev p.2).flatMap idsOf → h2 j = h j) → partsD Ω h2 (parts.toList.map fun p => (p.1, ev p.2)) = partsD Ω h (parts.toList.map fun p => (p.1, ev p.2)) ∧
        freezeL h2 ((parts.toList.map fun p => ev p.2).flatMap idsOf) = freezeL h ((parts.toList.map fun p => ev p.2).flatMap idsOf) := fun hh => by
       refine ⟨partsD_local _ ?_, freezeL_local _ hh⟩
       simpa [List.map_map, Function.comp_def] using hh
      cases hd : (draw && !Nat.beq len 0) with
      | true =>
       simp only [hd, if_true] at hK ⊢
       subst hK
       obtain ⟨k1, k2⟩ := key fun j hj => ha j hj
       simp only [k1, q1, q2, k2]
       exact ⟨a1, a2, a3, a4, trivial⟩
      | false =>
       simp only [hd, Bool.false_eq_true, if_false] at hK ⊢
       obtain ⟨a5, rfl⟩ := hK
       obtain ⟨k1, k2⟩ := key fun j hj => ha j (List.Mem.tail _ hj)
       have h1 := ha _ (List.Mem.head _)
       simp only [k1, q1, q2, k2, h1]
       exact ⟨a1, a2, a3, a4, a5, trivial⟩
     ·exact hK.elim
    ·exact hK.elim
   ·exact hK.elim
  ·exact hK.elim
 | makeSlice T l c =>
  rw [ho] at hK
  simp only [opR, w_slen, w_sget, w_ssub, w_sset, w_srep, w_scat, BrG_eq, DK_eq, w_ci, w_iand, w_ior, w_ixor, w_ishl, w_ishr, w_wrap, w_tmod, w_lt, w_le, w_eq, w_ne, w_ile, w_ilt, w_tn, w_nadd, w_nsub, w_nlt, w_leb, w_room, w_imax, w_imin, w_bget, w_bext, w_bcat, w_bsz, w_beqs] at hK ⊢
  split at hK
  ·split at hK
   ·split at hK
    ·split at hK
     ·rename_i q
      obtain ⟨a0, a1, a2, a3, a4, a5, a6, rfl⟩ := hK
      have h1 := ha _ (List.Mem.head _)
      have q2 := (toD_local (h2 := h2) (h := h) (fun j hj => by rw [idsOf_constV] at hj; exact absurd hj List.not_mem_nil)).trans q
      simp only [q2]
      exact ⟨h1.trans a0, a1, a2, a3, a4, a5, a6, trivial⟩
     ·exact hK.elim
    ·exact hK.elim
   ·exact hK.elim
  ·exact hK.elim
 | call c =>
  obtain ⟨callee, args, ts⟩ := c
  cases callee with
  | invoke r m => rw [ho] at hK; simp only [opR, w_slen, w_sget, w_ssub, w_sset, w_srep, w_scat, BrG_eq, DK_eq, w_ci, w_iand, w_ior, w_ixor, w_ishl, w_ishr, w_wrap, w_tmod, w_lt, w_le, w_eq, w_ne, w_ile, w_ilt, w_tn, w_nadd, w_nsub, w_nlt, w_leb, w_room, w_imax, w_imin, w_bget, w_bext, w_bcat, w_bsz, w_beqs] at hK
  | value f =>
   rw [ho] at hK
   simp only [opR, w_slen, w_sget, w_ssub, w_sset, w_srep, w_scat, BrG_eq, DK_eq, w_ci, w_iand, w_ior, w_ixor, w_ishl, w_ishr, w_wrap, w_tmod, w_lt, w_le, w_eq, w_ne, w_ile, w_ilt, w_tn, w_nadd, w_nsub, w_nlt, w_leb, w_room, w_imax, w_imin, w_bget, w_bext, w_bcat, w_bsz, w_beqs] at hK ⊢
   split at hK
   ·rename_i g ls hf0
    split at hK
    ·rename_i hne
     simp only [hne, if_true]
     exact hK
    rename_i hne
    simp only [if_neg hne]
    split at hK
    ·rename_i hm
     simp only [hm, if_true]
     split at hK
     ·rename_i hro
      simp only [hro, if_true]
      split at hK
      ·rename_i q
       obtain ⟨r, a1, a2, a3, rfl⟩ := hK
       have hr : reach h2 40 (ls.flatMap vids) [] = reach h 40 (ls.flatMap vids) [] := reach_local _ _ _ fun j hj => ha j hj
       have hg : getAll h2 (reach h 40 (ls.flatMap vids) []) = getAll h (reach h 40 (ls.flatMap vids) []) := getAll_local _ fun j hj => ha j hj
       simp only [hr, hg, q]
       exact ⟨r, a1, a2, a3, rfl⟩
      ·exact hK.elim
     rename_i hro
     simp only [hro]
     split at hK
     ·rename_i q
      obtain ⟨r, bs', a1, a2, a3, a4, rfl⟩ := hK
      have hr : reach h2 40 (ls.flatMap vids) [] = reach h 40 (ls.flatMap vids) [] := reach_local _ _ _ fun j hj => ha j (List.mem_append_left _ hj)
      have hg : getAll h2 (reach h 40 (ls.flatMap vids) []) = getAll h (reach h 40 (ls.flatMap vids) []) := getAll_local _ fun j hj => ha j (List.mem_append_left _ hj)
      simp only [hr, hg, q]
      exact ⟨r, bs', a1, allNew_local _ (fun j hj => ha j (List.mem_append_right _ hj)) a2, a3, a4, rfl⟩
     ·exact hK.elim
    ·rename_i hm
     simp only [hm]
     split at hK
     ·rename_i q
      obtain ⟨r, a1, rfl⟩ := hK
      have h1 : toDs Ω h2 ls = toDs Ω h ls := toDs_local _ fun j hj => ha j hj
      have h3 : freezeL h2 (ls.flatMap idsOf) = freezeL h (ls.flatMap idsOf) := freezeL_local _ fun j hj => ha j hj
      simp only [h1, q, h3]
      exact ⟨r, a1, rfl⟩
     ·exact hK.elim
   ·exact hK.elim
  | builtin b =>
   cases b with
   | len =>
    rw [ho] at hK
    simp only [opR, w_slen, w_sget, w_ssub, w_sset, w_srep, w_scat, BrG_eq, DK_eq, w_ci, w_iand, w_ior, w_ixor, w_ishl, w_ishr, w_wrap, w_tmod, w_lt, w_le, w_eq, w_ne, w_ile, w_ilt, w_tn, w_nadd, w_nsub, w_nlt, w_leb, w_room, w_imax, w_imin, w_bget, w_bext, w_bcat, w_bsz, w_beqs] at hK ⊢
    split at hK
    ·split at hK
     ·exact hK
     ·exact hK
     ·split at hK
      ·rename_i hj
       subst hK
       have := ha _ (List.Mem.head _)
       simp only [this, hj]
      ·exact hK.elim
     ·exact hK
     ·exact hK
     ·exact hK
     ·exact hK.elim
    all_goals first | exact hK.elim | contradiction
   | append =>
    rw [ho] at hK
    simp only [opR, w_slen, w_sget, w_ssub, w_sset, w_srep, w_scat, BrG_eq, DK_eq, w_ci, w_iand, w_ior, w_ixor, w_ishl, w_ishr, w_wrap, w_tmod, w_lt, w_le, w_eq, w_ne, w_ile, w_ilt, w_tn, w_nadd, w_nsub, w_nlt, w_leb, w_room, w_imax, w_imin, w_bget, w_bext, w_bcat, w_bsz, w_beqs] at hK ⊢
    split at hK
    ·rename_i q _ _; cases q
    ·rename_i x y T U _ hargs hts
     split at hK
     ·split at hK
      ·split at hK
       ·unfold appStr at hK ⊢
        split at hK
        ·obtain ⟨a1, a2, a3, a4, hK⟩ := hK
         split at hK
         ·obtain ⟨a5, rfl⟩ := hK
          have h1 := ha _ (List.Mem.head _)
          exact ⟨a1, a2, a3, h1.trans a4, a5, rfl⟩
         ·split at hK
          ·rename_i hj
           obtain ⟨b1, b2, b3, rfl⟩ := hK
           have h1 := ha _ (List.Mem.head _)
           have h1' := ha _ (List.Mem.tail _ (List.Mem.head _))
           simp only [h1', hj]
           exact ⟨a1, a2, a3, h1.trans a4, b1, b2, b3, trivial⟩
          ·exact hK.elim
         ·exact hK.elim
        ·exact hK.elim
       obtain ⟨a1, a2, a3, hK⟩ := hK
       split at hK
       ·rename_i q
        obtain ⟨a4, a5, hK⟩ := hK
        split at hK
        ·obtain ⟨a6, rfl⟩ := hK
         have h1 := ha _ (List.Mem.head _)
         have hy : toD Ω h2 y = toD Ω h y := toD_local fun j hj => ha j (List.Mem.tail _ hj)
         have h3 : freezeL h2 (idsOf y) = freezeL h (idsOf y) := freezeL_local _ fun j hj => ha j (List.Mem.tail _ hj)
         simp only [hy, q, h3]
         exact ⟨a1, a2, a3, h1.trans a4, a5, a6, trivial⟩
        ·split at hK
         ·rename_i hj
          obtain ⟨b1, b2, b3, b4, rfl⟩ := hK
          have h1 := ha _ (List.Mem.head _)
          have h1' := ha _ (List.Mem.tail _ (List.Mem.head _))
          have hy : toD Ω h2 y = toD Ω h y := toD_local fun j hj => ha j (List.Mem.tail _ (List.Mem.tail _ hj))
          have h3 : freezeL h2 (idsOf y) = freezeL h (idsOf y) := freezeL_local _ fun j hj => ha j (List.Mem.tail _ (List.Mem.tail _ hj))
          simp only [hy, q, h3, h1', hj]
          exact ⟨a1, a2, a3, h1.trans a4, a5, b1, b2, b3, b4, trivial⟩
         ·exact hK.elim
        ·exact hK.elim
       ·exact hK.elim
      ·exact hK.elim
     ·exact hK.elim
    all_goals first | exact hK.elim | contradiction
   | unsafeSliceData =>
    rw [ho] at hK
    simp only [opR] at hK ⊢
    split at hK
    all_goals try contradiction
    ·split at hK
     ·exact hK
     ·split at hK
      ·rename_i hj
       obtain ⟨a1, a2, a3, rfl⟩ := hK
       have := ha _ (List.Mem.head _)
       simp only [this, hj]
       exact ⟨a1, a2, a3, trivial⟩
      ·exact hK.elim
     ·exact hK.elim
    all_goals exact hK.elim
   | unsafeString =>
    rw [ho] at hK
    simp only [opR] at hK ⊢
    split at hK
    all_goals try contradiction
    ·split at hK
     ·exact hK
     ·split at hK
      ·rename_i q1 q2
       obtain ⟨a1, a2, a3, a4, a5, rfl⟩ := hK
       have h1 := ha _ (List.Mem.head _)
       have h3 : freezeL h2 [_] = freezeL h [_] := freezeL_local _ fun j hj => ha j hj
       simp only [h1, q1, q2, h3]
       exact ⟨a1, a2, a3, a4, a5, trivial⟩
      ·exact hK.elim
     ·exact hK.elim
    all_goals exact hK.elim
   | max => rw [ho] at hK; simp only [opR] at hK ⊢; exact hK
   | min => rw [ho] at hK; simp only [opR] at hK ⊢; exact hK
   | copy =>
    rw [ho] at hK
    simp only [opR] at hK ⊢
    obtain ⟨a0, hK⟩ := hK
    refine ⟨a0, ?_⟩
    split at hK
    ·rename_i y _ _ _ _
     split at hK
     ·rename_i q1 q2 q3
      split at hK
      ·rename_i q4
       obtain ⟨a1, a2, a3, a4, a5, a6, rfl⟩ := hK
       have h1 := ha _ (List.Mem.head _)
       have hy : toD Ω h2 y = toD Ω h y := toD_local fun j hj => ha j (List.Mem.tail _ hj)
       have h3 : freezeL h2 (idsOf y) = freezeL h (idsOf y) := freezeL_local _ fun j hj => ha j (List.Mem.tail _ hj)
       simp only [hy, h1, q1, q2, q3, q4, h3]
       exact ⟨a1, a2, a3, a4, a5, a6, trivial⟩
      ·exact hK.elim
     ·exact hK.elim
    ·exact hK.elim
   | _ => rw [ho] at hK; simp only [opR, w_slen, w_sget, w_ssub, w_sset, w_srep, w_scat, BrG_eq, DK_eq, w_ci, w_iand, w_ior, w_ixor, w_ishl, w_ishr, w_wrap, w_tmod, w_lt, w_le, w_eq, w_ne, w_ile, w_ilt, w_tn, w_nadd, w_nsub, w_nlt, w_leb, w_room, w_imax, w_imin, w_bget, w_bext, w_bcat, w_bsz, w_beqs] at hK
 | _ =>
  rw [ho] at hK
  simpa only [opR] using hK
end
end Go.K
end
section
namespace Go.K
open Go
structure Base where
 ι : Nat → Option Value
 imm : Nat → Prop
 h : Heap
 w : World
def marks (B : Base) (ds : List Deferred) (w : World) : Prop :=
 (∀ g, B.imm g → g < B.w.heap.size) ∧ ds.Nodup ∧ ∀ d, d ∈ ds → ∃ D, d = { target := .collected D, args := #[] } ∧ B.w.heap.size ≤ D ∧ w.heap[D]? = some (.deferred (some []))
theorem marks_nil {B : Base} (h : ∀ g, B.imm g → g < B.w.heap.size) (w : World) : marks B [] w := ⟨h, List.nodup_nil, fun _ q => absurd q List.not_mem_nil⟩
theorem marks.evo {B : Base} {ds : List Deferred} {ι ι' : Nat → Option Value} {imm imm' : Nat → Prop} {h h' : Heap} {w w' : World} (m : marks B ds w) (I : Inv ι imm h w) (e : Evo ι imm h w ι' imm' h' w') : marks B ds w' :=
 ⟨m.1, m.2.1, fun d hd => by
  obtain ⟨D, h1, h2, h3⟩ := m.2.2 d hd
  exact ⟨D, h1, h2, (e.keep D (Array.getElem?_eq_some_iff.1 h3).1 (I.not_owned h3 rfl)).trans h3⟩⟩
def Sim (B : Base) (n : Nat) (s : St) (a : Act) (w : World) : Prop :=
 ∃ ι imm, Evo B.ι B.imm B.h B.w ι imm s.h w ∧ Inv ι imm s.h w ∧ a.tmps.size = n ∧ marks B a.defers w ∧ ∀ t, RepV ι imm w (s.sl t) (a.tmps.getD t undef)
theorem Inv.sameHeap {ι : Nat → Option Value} {imm : Nat → Prop} {h : Heap} {w w' : World} (I : Inv ι imm h w) (e : w'.heap = w.heap) : Inv ι imm h w' :=
 ⟨fun id B hid => let ⟨v, h1, h2⟩ := I.blk id B hid; ⟨v, h1, h2.mono (fun _ _ q => q) (fun g hg => ⟨hg, by rw [e]⟩) fun g _ _ => by rw [e]⟩, I.non, I.own, I.inj, fun g hg => by rw [e]; exact I.lt g hg⟩
theorem Sim.drew {B : Base} {n : Nat} {s : St} {a : Act} {w : World} (h : Sim B n s a w) : Sim B n s a { w with drawn := w.drawn + 1 } := by
 obtain ⟨ι, imm, e, I, h1, h2, h3⟩ := h
 exact ⟨ι, imm, ⟨e.ids, e.immS, e.immR, e.own', e.keep, e.size, e.os, e.tape, e.output⟩, I.sameHeap rfl, h1, h2, fun t => RepV.mono (w := w) (w' := { w with drawn := w.drawn + 1 }) (fun _ _ q => q) (fun g hg => ⟨hg, rfl⟩) (h3 t)⟩
theorem ev_rep {ι : Nat → Option Value} {imm : Nat → Prop} {w : World} {s : Nat → V} {a : Act} (h : ∀ t, RepV ι imm w (s t) (a.tmps.getD t undef)) (x : Operand) : RepV ι imm w (ev s x) (a.eval x) := by
 cases x with
 | tmp t => exact h t
 | const v => exact constV_rep _ _ _ v
 | global g => trivial
 | func f => exact rfl
theorem put_rep {ι : Nat → Option Value} {imm : Nat → Prop} {w : World} {s : Nat → V} {a : Act} {n : Nat} (hn : a.tmps.size = n) (h : ∀ t, RepV ι imm w (s t) (a.tmps.getD t undef)) {d : Option Tmp} (hd : ∀ t, d = some t → t < n)
  {x : V} {v : Value} (hv : RepV ι imm w x v) : ∀ t, RepV ι imm w (put s d x t) ((a.put d v).tmps.getD t undef) := by
 intro t
 cases d with
 | none => exact h t
 | some d =>
  have hlt : d < n := hd d rfl
  simp only [put, Act.put]
  by_cases c : t = d
  ·subst c
   rw [upd_same]
   have : (a.tmps.setIfInBounds t v).getD t undef = v := by
    have : t < a.tmps.size := by rw [hn]; exact hlt
    simp [Array.getD, this]
   rw [this]; exact hv
  ·rw [upd_other _ _ _ _ c]
   have : (a.tmps.setIfInBounds d v).getD t undef = a.tmps.getD t undef := by
    simp only [Array.getD_eq_getD_getElem?, Array.getElem?_setIfInBounds, if_neg (Ne.symm c)]
   rw [this]; exact h t
def guardOf (ops : Array Oper) (s : Nat → V) (o : Oper) : Option Bool :=
 match o.guard with
 | none => some true
 | some (j, want) => match (ops[j]?).bind (·.dst) with
  | some t => match s t with
   | .d (.b x) => some (decide (x = want))
   | .tup [] => some false
   | _ => none
  | none => none
theorem guard_rep {ι : Nat → Option Value} {imm : Nat → Prop} {w : World} {s : Nat → V} {a : Act} (h : ∀ t, RepV ι imm w (s t) (a.tmps.getD t undef)) {ops : Array Oper} {o : Oper} {b : Bool} (hg : guardOf ops s o = some b) :
  Region.wanted o (yielded ops a.tmps) = b := by
 unfold guardOf at hg
 unfold Region.wanted
 cases hgd : o.guard with
 | none => rw [hgd] at hg; cases hg; rfl
 | some p =>
  obtain ⟨j, want⟩ := p
  rw [hgd] at hg
  simp only at hg ⊢
  split at hg
  ·rename_i t ht
   split at hg
   ·rename_i x hx
    cases hg
    have h1 := h t
    rw [hx] at h1
    have h2 := repB h1
    have hlt : t < a.tmps.size := by
     rcases Nat.lt_or_ge t a.tmps.size with q | q
     ·exact q
     ·rw [Array.getD_eq_getD_getElem?, Array.getElem?_eq_none (by omega)] at h2; cases h2
    have h3 : a.tmps[t]? = some (.bool x) := by
     rw [← h2]; simp [Array.getD, hlt]
    simp only [yielded, ht, Option.bind_some, h3]
    cases x <;> cases want <;> rfl
   ·rename_i hx
    cases hg
    have h1 := h t
    rw [hx] at h1
    obtain ⟨vs, h2, h4, _⟩ := h1
    have h3 : ∀ y, a.tmps[t]? = some y → y = .tuple vs := fun y hy => by
     rw [← h2]; simp [Array.getD_eq_getD_getElem?, hy]
    have h5 : yielded ops a.tmps j = none := by
     simp only [yielded, ht, Option.bind_some]
     cases hy : a.tmps[t]? with
     | none => rfl
     | some y => rw [h3 y hy]
    rw [h5]
    cases want <;> rfl
   ·cases hg
  ·cases hg
section
variable {P : Program} {E : Env} {B : Base} {n : Nat}
theorem oper_sound (ok : EnvOk P E) {draw : Bool} {s : St} {a : Act} {w : World} (S : Sim B n s a w) {o : Oper} {id : Nat} {K : Out → Prop} (hK : opR Ω E draw (ev s.sl) s.h o.op id K) (hd : ∀ t, o.dst = some t → t < n)
  {next : Act → World → Prop} {Q : Exit → Act → World → Prop} (hn : ∀ out a' w', K out → Sim B n (step s o.dst out) a' w' → next a' w') : o.wp P a w next Q := by
 obtain ⟨ι, imm, e, I, h1, h2, h3⟩ := S
 have hput : ∀ v, (a.put o.dst v).tmps.size = n := fun v => by cases o.dst <;> simp [Act.put, h1]
 have hdef : ∀ v, (a.put o.dst v).defers = a.defers := fun v => by cases o.dst <;> simp [Act.put]
 unfold Oper.wp
 rcases op_sound ok I (ev_rep h3) hK with ⟨out, v, w', ι', imm', hr, hk, e', I', hv⟩ | ⟨g, vs, hr, hc⟩
 ·have fin := hn out (a.put o.dst v) w' hk ⟨ι', imm', e.trans e', I', hput v, by rw [hdef]; exact h2.evo I e', put_rep h1 (fun t => (h3 t).evo I e') hd hv⟩
  rcases hr with hr | ⟨hr, rfl⟩
  ·rw [hr]; exact fin
  ·rw [hr]; exact fin
 ·rw [hr]
  simp only [Oper.upon]
  refine hc.mono ?_
  rintro e0 w' ⟨v, out, ι', imm', rfl, hk, e', I', hv⟩
  exact hn out (a.put o.dst v) w' hk ⟨ι', imm', e.trans e', I', hput v, by rw [hdef]; exact h2.evo I e', put_rep h1 (fun t => (h3 t).evo I e') hd hv⟩
theorem skip_sound {s : St} {a : Act} {w : World} (S : Sim B n s a w) {o : Oper} (hd : ∀ t, o.dst = some t → t < n) : Sim B n (step s o.dst { v := .tup [] }) (a.put o.dst undef) w := by
 obtain ⟨ι, imm, e, I, h1, h2, h3⟩ := S
 exact ⟨ι, imm, e, I, by cases o.dst <;> simp [Act.put, h1], by cases o.dst <;> simp [Act.put, h2], put_rep h1 h3 hd (x := .tup []) ⟨#[], rfl, rfl, fun j hj => absurd hj (Nat.not_lt_zero _)⟩⟩
theorem wpl_guard {draw : Bool} {base : Nat} {ops : Array Oper} {o : Oper} {r : List Oper} {m : Nat} {log : List Foot} {s : St} {K : List Foot → St → Prop} (h : wpl Ω E draw base ops (o :: r) m log s K) :
  (guardOf ops s.sl o = some true ∧ opR Ω E draw (ev s.sl) s.h o.op (base + m) fun out => wpl Ω E draw base ops r (m + 1) (⟨m, out.upd.map Prod.fst ++ out.rd, out.upd.map Prod.fst⟩ :: log) (step s o.dst out) K) ∨
  (guardOf ops s.sl o = some false ∧ wpl Ω E draw base ops r (m + 1) (⟨m, [], []⟩ :: log) (step s o.dst { v := .tup [] }) K) := by
 unfold wpl at h
 simp only [BrG_eq] at h
 unfold guardOf
 split at h
 ·rename_i hg
  rw [hg]; exact .inl ⟨rfl, h⟩
 ·rename_i j want hg
  rw [hg]
  simp only
  split at h
  ·rename_i t ht
   rw [ht]
   simp only
   split at h
   ·rename_i x hx
    rw [hx]
    simp only
    by_cases c : x = want
    ·rw [if_pos c] at h
     exact .inl ⟨by simp [c], h⟩
    ·rw [if_neg c] at h
     exact .inr ⟨by simp [c], h⟩
   ·rename_i hx
    rw [hx]
    exact .inr ⟨rfl, h⟩
   ·exact h.elim
  ·exact h.elim
theorem wpl_sound (ok : EnvOk P E) {base : Nat} {ops : Array Oper} (hd : ∀ (i : Nat) (o : Oper) (t : Tmp), ops[i]? = some o → o.dst = some t → t < n) {Q : Exit → Act → World → Prop} :
  ∀ (r : List Oper) (m : Nat), (∀ j : Nat, r[j]? = ops[m + j]?) → ∀ (log : List Foot) (s : St) (a : Act) (w : World) (K : List Foot → St → Prop), wpl Ω E false base ops r m log s K → Sim B n s a w →
   (∀ log s' a' w', K log s' → Sim B n s' a' w' → Q .normal a' w') → wpOps P ops Q (List.range' m r.length) a w
 | [], m, _, log, s, a, w, K, h, S, hQ => hQ log s a w h S
 | o :: r, m, hr, log, s, a, w, K, h, S, hQ => by
  have h0 : ops[m]? = some o := by simpa using (hr 0).symm
  have hr' : ∀ j : Nat, r[j]? = ops[m + 1 + j]? := fun j => by have := hr (j + 1); simpa [Nat.add_assoc, Nat.add_comm 1 j] using this
  simp only [List.length_cons, List.range'_succ, wpOps, h0]
  have hg : ∀ b, guardOf ops s.sl o = some b → Region.wanted o (yielded ops a.tmps) = b := fun b hb => by
   obtain ⟨ι, imm, e, I, h1, h2, h3⟩ := S
   exact guard_rep h3 hb
  rcases wpl_guard h with ⟨g, hop⟩ | ⟨g, hskip⟩
  ·rw [hg _ g]
   simp only [if_true]
   exact .inl (oper_sound ok S hop (fun t ht => hd m o t h0 ht) fun out a' w' hk S' => wpl_sound ok hd r (m + 1) hr' _ _ a' w' K hk S' hQ)
  ·rw [hg _ g]
   simp only [Bool.false_eq_true, if_false]
   exact wpl_sound ok hd r (m + 1) hr' _ _ _ _ K hskip (skip_sound S fun t ht => hd m o t h0 ht) hQ
end
end Go.K
end
