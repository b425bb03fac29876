/-
  Parts of the proof, joined by a program of this work: KInv, KRun, KOps.
-/
import Derived.Test.YtlolgojfeijjhaaGreatDoorQaa
set_option linter.unusedSectionVars false
set_option linter.unusedSimpArgs false
set_option linter.unusedVariables false
section
namespace Go.K
open Go
theorem BlkRep.lt {ι : Nat → Option Value} {imm : Nat → Prop} {w : World} {B : Blk} {v : Value} {g : Nat} (h : BlkRep ι imm w B v) (hl : live B = true) (hg : blockOf v = some g) :
  g < w.heap.size := by
 cases B with
 | dead => cases hl
 | var cs =>
  obtain ⟨g', vs, T, rfl, h2, _⟩ := h
  cases hg
  exact (Array.getElem?_eq_some_iff.1 h2).1
 | row l e sz xs =>
  cases l with
  | false => cases hl
  | true =>
   obtain ⟨cells, ho, _⟩ := h
   rcases ho.2 with ⟨rfl, _⟩ | ⟨g', cap, cur, fr, rfl, _, h2, _⟩
   ·cases hg
   ·cases hg
    exact (Array.getElem?_eq_some_iff.1 h2).1
theorem BlkRep.mono {ι ι' : Nat → Option Value} {imm imm' : Nat → Prop} {w w' : World} {B : Blk} {v : Value} (hi : ∀ id v, ι id = some v → ι' id = some v)
  (hm : ∀ g, imm g → imm' g ∧ w'.heap[g]? = w.heap[g]?) (hb : ∀ g, live B = true → blockOf v = some g → w'.heap[g]? = w.heap[g]?)
  (h : BlkRep ι imm w B v) : BlkRep ι' imm' w' B v := by
 cases B with
 | dead => trivial
 | var cs =>
  obtain ⟨g', vs, T, rfl, h2, h3, h4⟩ := h
  exact ⟨g', vs, T, rfl, (hb g' rfl rfl).trans h2, h3, fun j hj => ⟨(h4 j hj).1.mono hi hm, (h4 j hj).2⟩⟩
 | row l e sz xs =>
  cases l with
  | false => exact ⟨h.1.mono hm, h.2.1, h.2.2⟩
  | true =>
   obtain ⟨cells, ho, h2, h3⟩ := h
   refine ⟨cells, ⟨ho.1, ?_⟩, h2, fun i j a b => (h3 i j a b).mono hm⟩
   rcases ho.2 with hn | ⟨g', cap, cur, fr, rfl, a, h4, h5⟩
   ·exact .inl hn
   ·exact .inr ⟨g', cap, cur, fr, rfl, a, (hb g' rfl rfl).trans h4, h5⟩
theorem Inv.owned_lt {ι : Nat → Option Value} {imm : Nat → Prop} {h : Heap} {w : World} (I : Inv ι imm h w) {g : Nat} (o : Owned ι h g) : g < w.heap.size := by
 obtain ⟨id, B, v, h1, h2, h3, h4⟩ := o
 obtain ⟨v', h5, h6⟩ := I.blk id B h1
 rw [h3] at h5; cases h5
 exact h6.lt h2 h4
theorem upd_same {α : Type} (s : Nat → α) (t : Nat) (v : α) : upd s t v t = v := by simp [upd]
theorem upd_other {α : Type} (s : Nat → α) (t x : Nat) (v : α) (h : x ≠ t) : upd s t v x = s x := by simp [upd, h]
theorem Inv.fresh {ι : Nat → Option Value} {imm : Nat → Prop} {h : Heap} {w w' : World} (I : Inv ι imm h w) {id : Nat} (hid : h id = none) (v : Value) (B : Blk)
  (hsize : w.heap.size ≤ w'.heap.size) (hkeep : ∀ g, g < w.heap.size → w'.heap[g]? = w.heap[g]?) (hos : w'.os = w.os) (ht : w'.tape = w.tape) (ho : w'.output = w.output)
  (hv : ∀ g, blockOf v = some g → w.heap.size ≤ g)
  (hB : BlkRep (upd ι id (some v)) imm w' B v) :
  Inv (upd ι id (some v)) imm (upd h id (some B)) w' ∧ Evo ι imm h w (upd ι id (some v)) imm (upd h id (some B)) w' := by
 have hι : ι id = none := I.non id hid
 have hi : ∀ j v', ι j = some v' → upd ι id (some v) j = some v' := fun j v' e => by
  by_cases c : j = id
  ·subst c; rw [hι] at e; cases e
  ·rw [upd_other _ _ _ _ c]; exact e
 have hm : ∀ g, imm g → imm g ∧ w'.heap[g]? = w.heap[g]? := fun g e => ⟨e, hkeep g (I.lt g e)⟩
 have own : ∀ g, Owned (upd ι id (some v)) (upd h id (some B)) g → Owned ι h g ∨ w.heap.size ≤ g := by
  rintro g ⟨j, B', v', h1, h2, h3, h4⟩
  by_cases c : j = id
  ·subst c
   rw [upd_same] at h3; cases h3
   exact .inr (hv g h4)
  ·rw [upd_other _ _ _ _ c] at h1 h3
   exact .inl ⟨j, B', v', h1, h2, h3, h4⟩
 refine ⟨⟨?_, ?_, ?_, ?_, fun g e => Nat.lt_of_lt_of_le (I.lt g e) hsize⟩, ⟨hi, fun _ e => e, fun _ e => .inl e, own, fun g hg _ => hkeep g hg, hsize, hos, ht, ho⟩⟩
 ·intro j B' hj
  by_cases c : j = id
  ·subst c
   rw [upd_same] at hj; cases hj
   exact ⟨v, upd_same _ _ _, hB⟩
  ·rw [upd_other _ _ _ _ c] at hj
   obtain ⟨v', h1, h2⟩ := I.blk j B' hj
   exact ⟨v', hi j v' h1, h2.mono hi hm fun g a b => hkeep g (h2.lt a b)⟩
 ·intro j hj
  by_cases c : j = id
  ·subst c; rw [upd_same] at hj; cases hj
  ·rw [upd_other _ _ _ _ c] at hj ⊢
   exact I.non j hj
 ·intro g o e
  rcases own g o with o | o
  ·exact I.own g o e
  ·have := I.lt g e; omega
 ·intro a b A' B' x y g h1 h2 h3 h4 h5 h6 h7 h8
  by_cases ca : a = id
  ·subst ca
   by_cases cb : b = a
   ·exact cb.symm
   ·rw [upd_other _ _ _ _ cb] at h2 h6
    rw [upd_same] at h5; cases h5
    have l1 := hv g h7
    have l2 := I.owned_lt ⟨b, B', y, h2, h4, h6, h8⟩
    omega
  ·rw [upd_other _ _ _ _ ca] at h1 h5
   by_cases cb : b = id
   ·subst cb
    rw [upd_same] at h6; cases h6
    have l1 := hv g h8
    have l2 := I.owned_lt ⟨a, A', x, h1, h3, h5, h7⟩
    omega
   ·rw [upd_other _ _ _ _ cb] at h2 h6
    exact I.inj a b A' B' x y g h1 h2 h3 h4 h5 h6 h7 h8
theorem Inv.wrote {ι : Nat → Option Value} {imm : Nat → Prop} {h : Heap} {w w' : World} (I : Inv ι imm h w) {id : Nat} {B0 B : Blk} {v : Value} (hid : h id = some B0) (hl0 : live B0 = true)
  (hv : ι id = some v) (hsize : w'.heap.size = w.heap.size) (hkeep : ∀ g, blockOf v ≠ some g → w'.heap[g]? = w.heap[g]?) (hos : w'.os = w.os) (ht : w'.tape = w.tape) (ho : w'.output = w.output)
  (hB : BlkRep ι imm w' B v) :
  Inv ι imm (upd h id (some B)) w' ∧ Evo ι imm h w ι imm (upd h id (some B)) w' := by
 have nimm : ∀ g, imm g → blockOf v ≠ some g := fun g e c => I.own g ⟨id, B0, v, hid, hl0, hv, c⟩ e
 have hm : ∀ g, imm g → imm g ∧ w'.heap[g]? = w.heap[g]? := fun g e => ⟨e, hkeep g (nimm g e)⟩
 have own : ∀ g, Owned ι (upd h id (some B)) g → Owned ι h g := by
  rintro g ⟨j, B', v', h1, h2, h3, h4⟩
  by_cases c : j = id
  ·subst c
   exact ⟨j, B0, v', hid, hl0, h3, h4⟩
  ·rw [upd_other _ _ _ _ c] at h1
   exact ⟨j, B', v', h1, h2, h3, h4⟩
 refine ⟨⟨?_, ?_, fun g o => I.own g (own g o), ?_, fun g e => by rw [hsize]; exact I.lt g e⟩,
  ⟨fun _ _ e => e, fun _ e => e, fun _ e => .inl e, fun g o => .inl (own g o), fun g hg hn => hkeep g (fun c => hn ⟨id, B0, v, hid, hl0, hv, c⟩), by omega, hos, ht, ho⟩⟩
 ·intro j B' hj
  by_cases c : j = id
  ·subst c
   rw [upd_same] at hj; cases hj
   exact ⟨v, hv, hB⟩
  ·rw [upd_other _ _ _ _ c] at hj
   obtain ⟨v', h1, h2⟩ := I.blk j B' hj
   refine ⟨v', h1, h2.mono (fun _ _ e => e) hm fun g a b => hkeep g fun e => c (I.inj j id B' B0 v' v g hj hid a hl0 h1 hv b e)⟩
 ·intro j hj
  by_cases c : j = id
  ·subst c; rw [upd_same] at hj; cases hj
  ·rw [upd_other _ _ _ _ c] at hj
   exact I.non j hj
 ·intro a b A' B' x y g h1 h2 h3 h4 h5 h6 h7 h8
  have f : ∀ k C, upd h id (some B) k = some C → live C = true → ∃ C', h k = some C' ∧ live C' = true := fun k C e l => by
   by_cases c : k = id
   ·subst c; exact ⟨B0, hid, hl0⟩
   ·rw [upd_other _ _ _ _ c] at e; exact ⟨C, e, l⟩
  obtain ⟨A1, a1, a2⟩ := f a A' h1 h3
  obtain ⟨B1, b1, b2⟩ := f b B' h2 h4
  exact I.inj a b A1 B1 x y g a1 b1 a2 b2 h5 h6 h7 h8
theorem Inv.newImm {ι : Nat → Option Value} {imm : Nat → Prop} {h : Heap} {w : World} (I : Inv ι imm h w) (ob : Obj) :
  Inv ι (fun g => imm g ∨ g = w.heap.size) h (w.alloc ob) ∧ Evo ι imm h w ι (fun g => imm g ∨ g = w.heap.size) h (w.alloc ob) := by
 have hm : ∀ g, imm g → (imm g ∨ g = w.heap.size) ∧ (w.alloc ob).heap[g]? = w.heap[g]? := fun g e => ⟨.inl e, heap_alloc_old w _ g (I.lt g e)⟩
 refine ⟨⟨fun id B hid => ?_, I.non, fun g o e => ?_, I.inj, fun g e => ?_⟩,
  ⟨fun _ _ e => e, fun _ e => .inl e, fun g e => ?_, fun g o => .inl o, fun g hg _ => heap_alloc_old w _ g hg, by simp, rfl, rfl, rfl⟩⟩
 ·obtain ⟨v, h1, h2⟩ := I.blk id B hid
  exact ⟨v, h1, h2.mono (fun _ _ e => e) hm fun g a b => heap_alloc_old w _ g (h2.lt a b)⟩
 ·rcases e with e | e
  ·exact I.own g o e
  ·have := I.owned_lt o; omega
 ·rcases e with e | e
  ·have := I.lt g e; simp; omega
  ·simp; omega
 ·rcases e with e | e
  ·exact .inl e
  ·exact .inr (.inl (by omega))
theorem Inv.moved {ι : Nat → Option Value} {imm : Nat → Prop} {h : Heap} {w w' : World} (I : Inv ι imm h w) {j id : Nat} {B0 B : Blk} {v0 v : Value} {g : Nat} (hj : h j = some B0) (hl0 : live B0 = true)
  (hv0 : ι j = some v0) (hg0 : blockOf v0 = some g) (hid : h id = none) (hsize : w.heap.size ≤ w'.heap.size) (hkeep : ∀ k, k < w.heap.size → k ≠ g → w'.heap[k]? = w.heap[k]?)
  (hos : w'.os = w.os) (ht : w'.tape = w.tape) (ho : w'.output = w.output) (hg : blockOf v = some g) (hB : BlkRep (upd ι id (some v)) imm w' B v) :
  Inv (upd ι id (some v)) imm (upd (upd h j (some .dead)) id (some B)) w' ∧ Evo ι imm h w (upd ι id (some v)) imm (upd (upd h j (some .dead)) id (some B)) w' := by
 have hne : id ≠ j := fun e => by subst e; rw [hid] at hj; cases hj
 have hι : ι id = none := I.non id hid
 have og : Owned ι h g := ⟨j, B0, v0, hj, hl0, hv0, hg0⟩
 have hi : ∀ k v', ι k = some v' → upd ι id (some v) k = some v' := fun k v' e => by
  by_cases c : k = id
  ·subst c; rw [hι] at e; cases e
  ·rw [upd_other _ _ _ _ c]; exact e
 have nimm : ∀ k, imm k → k ≠ g := fun k e c => by subst c; exact I.own k og e
 have hm : ∀ k, imm k → imm k ∧ w'.heap[k]? = w.heap[k]? := fun k e => ⟨e, hkeep k (I.lt k e) (nimm k e)⟩
 have hget : ∀ k C, upd (upd h j (some .dead)) id (some B) k = some C → live C = true → (k = id ∧ C = B) ∨ (k ≠ id ∧ k ≠ j ∧ h k = some C) := fun k C e l => by
  by_cases c : k = id
  ·subst c; rw [upd_same] at e; cases e; exact .inl ⟨rfl, rfl⟩
  ·rw [upd_other _ _ _ _ c] at e
   by_cases d : k = j
   ·subst d; rw [upd_same] at e; cases e; cases l
   ·rw [upd_other _ _ _ _ d] at e; exact .inr ⟨c, d, e⟩
 have own : ∀ k, Owned (upd ι id (some v)) (upd (upd h j (some .dead)) id (some B)) k → Owned ι h k := by
  rintro k ⟨a, B', v', h1, h2, h3, h4⟩
  rcases hget a B' h1 h2 with ⟨rfl, rfl⟩ | ⟨c, d, e⟩
  ·rw [upd_same] at h3; cases h3
   rw [hg] at h4; cases h4
   exact og
  ·rw [upd_other _ _ _ _ c] at h3
   exact ⟨a, B', v', e, h2, h3, h4⟩
 refine ⟨⟨?_, ?_, fun k o => I.own k (own k o), ?_, fun k e => Nat.lt_of_lt_of_le (I.lt k e) hsize⟩,
  ⟨hi, fun _ e => e, fun _ e => .inl e, fun k o => .inl (own k o), fun k hk hn => hkeep k hk (fun c => by subst c; exact hn og), hsize, hos, ht, ho⟩⟩
 ·intro k B' hk
  by_cases c : k = id
  ·subst c; rw [upd_same] at hk; cases hk; exact ⟨v, upd_same _ _ _, hB⟩
  ·rw [upd_other _ _ _ _ c] at hk
   by_cases d : k = j
   ·subst d; rw [upd_same] at hk; cases hk; exact ⟨v0, hi _ _ hv0, trivial⟩
   ·rw [upd_other _ _ _ _ d] at hk
    obtain ⟨v', h1, h2⟩ := I.blk k B' hk
    refine ⟨v', hi _ _ h1, h2.mono hi hm fun a l b => hkeep a (h2.lt l b) fun e => ?_⟩
    subst e
    exact d (I.inj k j B' B0 v' v0 a hk hj l hl0 h1 hv0 b hg0)
 ·intro k hk
  by_cases c : k = id
  ·subst c; rw [upd_same] at hk; cases hk
  ·rw [upd_other _ _ _ _ c] at hk ⊢
   by_cases d : k = j
   ·subst d; rw [upd_same] at hk; cases hk
   ·rw [upd_other _ _ _ _ d] at hk; exact I.non k hk
 ·intro a b A' B' x y k h1 h2 h3 h4 h5 h6 h7 h8
  rcases hget a A' h1 h3 with ⟨rfl, rfl⟩ | ⟨c, d, e⟩
  ·rcases hget b B' h2 h4 with ⟨rfl, rfl⟩ | ⟨c', d', e'⟩
   ·rfl
   ·exfalso
    rw [upd_same] at h5; cases h5
    rw [upd_other _ _ _ _ c'] at h6
    rw [hg] at h7; cases h7
    exact d' (I.inj b j B' B0 y v0 g e' hj h4 hl0 h6 hv0 h8 hg0)
  ·rcases hget b B' h2 h4 with ⟨rfl, rfl⟩ | ⟨c', d', e'⟩
   ·exfalso
    rw [upd_same] at h6; cases h6
    rw [upd_other _ _ _ _ c] at h5
    rw [hg] at h8; cases h8
    exact d (I.inj a j A' B0 x v0 g e hj h3 hl0 h5 hv0 h7 hg0)
   ·rw [upd_other _ _ _ _ c] at h5
    rw [upd_other _ _ _ _ c'] at h6
    exact I.inj a b A' B' x y k e e' h3 h4 h5 h6 h7 h8
theorem Inv.giveUp {ι : Nat → Option Value} {imm : Nat → Prop} {h : Heap} {w : World} (I : Inv ι imm h w) {id : Nat} {B0 : Blk} (hid : h id = some B0) :
  Inv ι imm (upd h id (some .dead)) w ∧ Evo ι imm h w ι imm (upd h id (some .dead)) w := by
 obtain ⟨v, hv, _⟩ := I.blk id B0 hid
 have own : ∀ g, Owned ι (upd h id (some .dead)) g → Owned ι h g := by
  rintro g ⟨j, B', v', h1, h2, h3, h4⟩
  by_cases c : j = id
  ·subst c; rw [upd_same] at h1; cases h1; cases h2
  ·rw [upd_other _ _ _ _ c] at h1
   exact ⟨j, B', v', h1, h2, h3, h4⟩
 refine ⟨⟨?_, ?_, fun g o => I.own g (own g o), ?_, I.lt⟩, ⟨fun _ _ e => e, fun _ e => e, fun _ e => .inl e, fun g o => .inl (own g o), fun _ _ _ => rfl, Nat.le_refl _, rfl, rfl, rfl⟩⟩
 ·intro j B' hj
  by_cases c : j = id
  ·subst c; rw [upd_same] at hj; cases hj; exact ⟨v, hv, trivial⟩
  ·rw [upd_other _ _ _ _ c] at hj; exact I.blk j B' hj
 ·intro j hj
  by_cases c : j = id
  ·subst c; rw [upd_same] at hj; cases hj
  ·rw [upd_other _ _ _ _ c] at hj; exact I.non j hj
 ·intro a b A' B' x y g h1 h2 h3 h4 h5 h6 h7 h8
  have f : ∀ k C, upd h id (some .dead) k = some C → live C = true → h k = some C := fun k C e l => by
   by_cases c : k = id
   ·subst c; rw [upd_same] at e; cases e; cases l
   ·rw [upd_other _ _ _ _ c] at e; exact e
  exact I.inj a b A' B' x y g (f a A' h1 h3) (f b B' h2 h4) h3 h4 h5 h6 h7 h8
theorem Inv.retire {ι : Nat → Option Value} {imm : Nat → Prop} {h : Heap} {w w' : World} (I : Inv ι imm h w) {id g : Nat} {B0 B : Blk} {v : Value} (hid : h id = some B0) (hl0 : live B0 = true) (hv : ι id = some v) (hg : blockOf v = some g)
  (hsize : w'.heap.size = w.heap.size) (hkeep : ∀ k, k ≠ g → w'.heap[k]? = w.heap[k]?) (hos : w'.os = w.os) (ht : w'.tape = w.tape) (ho : w'.output = w.output)
  (hlB : live B = false) (hB : BlkRep ι (fun k => imm k ∨ k = g) w' B v) :
  Inv ι (fun k => imm k ∨ k = g) (upd h id (some B)) w' ∧ Evo ι imm h w ι (fun k => imm k ∨ k = g) (upd h id (some B)) w' := by
 have og : Owned ι h g := ⟨id, B0, v, hid, hl0, hv, hg⟩
 have nimm : ∀ k, imm k → k ≠ g := fun k e c => by subst c; exact I.own k og e
 have hm : ∀ k, imm k → (imm k ∨ k = g) ∧ w'.heap[k]? = w.heap[k]? := fun k e => ⟨.inl e, hkeep k (nimm k e)⟩
 have liv : ∀ j B', upd h id (some B) j = some B' → live B' = true → j ≠ id ∧ h j = some B' := fun j B' h1 h2 => by
  by_cases c : j = id
  ·subst c; rw [upd_same] at h1; cases h1; rw [hlB] at h2; cases h2
  ·rw [upd_other _ _ _ _ c] at h1; exact ⟨c, h1⟩
 have own : ∀ k, Owned ι (upd h id (some B)) k → Owned ι h k ∧ k ≠ g := by
  rintro k ⟨j, B', v', h1, h2, h3, h4⟩
  obtain ⟨c, h1'⟩ := liv j B' h1 h2
  exact ⟨⟨j, B', v', h1', h2, h3, h4⟩, fun b => c (I.inj j id B' B0 v' v k h1' hid h2 hl0 h3 hv h4 (by rw [b]; exact hg))⟩
 refine ⟨⟨?_, ?_, fun k o c => ?_, ?_, fun k e => ?_⟩, ⟨fun _ _ e => e, fun _ e => .inl e, fun k e => ?_, fun k o => .inl (own k o).1, fun k hk hn => hkeep k (fun c => by subst c; exact hn og), by omega, hos, ht, ho⟩⟩
 ·intro j B' hj
  by_cases c : j = id
  ·subst c
   rw [upd_same] at hj; cases hj
   exact ⟨v, hv, hB⟩
  ·rw [upd_other _ _ _ _ c] at hj
   obtain ⟨v', h1, h2⟩ := I.blk j B' hj
   exact ⟨v', h1, h2.mono (fun _ _ e => e) hm fun k a b => hkeep k fun e => c (I.inj j id B' B0 v' v k hj hid a hl0 h1 hv b (by rw [e]; exact hg))⟩
 ·intro j hj
  by_cases c : j = id
  ·subst c; rw [upd_same] at hj; cases hj
  ·rw [upd_other _ _ _ _ c] at hj; exact I.non j hj
 ·obtain ⟨o1, o2⟩ := own k o
  exact c.elim (I.own k o1) o2
 ·intro a b A' B' x y k h1 h2 h3 h4 h5 h6 h7 h8
  exact I.inj a b A' B' x y k (liv a A' h1 h3).2 (liv b B' h2 h4).2 h3 h4 h5 h6 h7 h8
 ·rw [hsize]
  rcases e with e | e
  ·exact I.lt k e
  ·subst e; exact I.owned_lt og
 ·rcases e with e | e
  ·exact .inl e
  ·subst e; exact .inr (.inr og)
theorem Inv.freeze1 {ι : Nat → Option Value} {imm : Nat → Prop} {h : Heap} {w : World} (I : Inv ι imm h w) {id : Nat} {l : Bool} {e sz : Nat} {xs : List D} (hid : h id = some (.row l e sz xs)) :
  ∃ imm', Inv ι imm' (upd h id (some (.row false e sz xs))) w ∧ Evo ι imm h w ι imm' (upd h id (some (.row false e sz xs))) w := by
 obtain ⟨v, hv, hr⟩ := I.blk id _ hid
 cases l with
 | false =>
  have : upd h id (some (.row false e sz xs)) = h := by
   funext k
   by_cases c : k = id
   ·subst c; rw [upd_same, hid]
   ·rw [upd_other _ _ _ _ c]
  rw [this]
  exact ⟨imm, I, .refl _ _ _ _⟩
 | true =>
  refine ⟨fun g => imm g ∨ blockOf v = some g, ?_⟩
  have hm : ∀ g, imm g → (imm g ∨ blockOf v = some g) ∧ w.heap[g]? = w.heap[g]? := fun g a => ⟨.inl a, rfl⟩
  have own : ∀ g, Owned ι (upd h id (some (.row false e sz xs))) g → Owned ι h g ∧ blockOf v ≠ some g := by
   rintro g ⟨j, B', v', h1, h2, h3, h4⟩
   by_cases c : j = id
   ·subst c; rw [upd_same] at h1; cases h1; cases h2
   ·rw [upd_other _ _ _ _ c] at h1
    exact ⟨⟨j, B', v', h1, h2, h3, h4⟩, fun b => c (I.inj j id B' _ v' v g h1 hid h2 rfl h3 hv h4 b)⟩
  refine ⟨⟨?_, ?_, ?_, ?_, ?_⟩, ⟨fun _ _ e => e, fun _ e => .inl e, ?_, fun g o => .inl (own g o).1, fun _ _ _ => rfl, Nat.le_refl _, rfl, rfl, rfl⟩⟩
  ·intro j B' hj
   by_cases c : j = id
   ·subst c
    rw [upd_same] at hj; cases hj
    refine ⟨v, hv, ?_⟩
    obtain ⟨cells, ho, hu, hc⟩ := hr
    have hhead : headed v := by
     rcases ho.2 with ⟨rfl, _⟩ | ⟨g, cap, cur, fr, rfl, _⟩
     ·exact .inl rfl
     ·exact .inr ⟨g, _, _, rfl⟩
    refine ⟨?_, hu, hhead⟩
    by_cases hx : xs = []
    ·subst hx
     rcases ho.2 with ⟨rfl, _⟩ | ⟨g, cap, cur, fr, rfl, _⟩
     ·exact .sl0 _ _
     ·exact .sl0 _ _
    ·rcases ho.2 with ⟨rfl, hn⟩ | ⟨g, cap, cur, fr, rfl, _, hg, _, hcap, _, hsz, htake⟩
     ·exact absurd (List.eq_nil_of_length_eq_zero hn) hx
     ·have hlen : xs.length * sz ≤ cur.size := Nat.le_trans (Nat.mul_le_mul_right _ hcap) hsz
      have hlt : ∀ i j, i < xs.length → j < sz → i * sz + j < xs.length * sz := fun i j a b => by
       have h1 : (i + 1) * sz ≤ xs.length * sz := Nat.mul_le_mul_right _ a
       rw [Nat.add_mul] at h1; omega
      refine .sl xs g 0 cap sz cur e fr hx (.inr rfl) hg hcap hu (fun i j a b => by have := hlt i j a b; omega) fun i j a b => ?_
      have hc' := (hc i j a b).mono (imm' := fun g' => imm g' ∨ blockOf (.slice (some ⟨g, 0, none⟩) xs.length cap) = some g') (w' := w) (fun g a => ⟨.inl a, rfl⟩)
      have hk := hlt i j a b
      have : cells.getD (i * sz + j) undef = cur.getD (0 + (i * sz + j)) undef := by
       rw [← htake]
       have h2 : i * sz + j < cur.size := by omega
       simp [List.getD, hk, Array.getD, h2]
      rw [← this]
      exact hc'
   ·rw [upd_other _ _ _ _ c] at hj
    obtain ⟨v', h1, h2⟩ := I.blk j B' hj
    exact ⟨v', h1, h2.mono (fun _ _ e => e) hm fun _ _ _ => rfl⟩
  ·intro j hj
   by_cases c : j = id
   ·subst c; rw [upd_same] at hj; cases hj
   ·rw [upd_other _ _ _ _ c] at hj; exact I.non j hj
  ·intro g o c
   obtain ⟨o1, o2⟩ := own g o
   exact c.elim (I.own g o1) o2
  ·intro a b A' B' x y g h1 h2 h3 h4 h5 h6 h7 h8
   have f : ∀ k C, upd h id (some (.row false e sz xs)) k = some C → live C = true → h k = some C := fun k C e l => by
    by_cases c : k = id
    ·subst c; rw [upd_same] at e; cases e; cases l
    ·rw [upd_other _ _ _ _ c] at e; exact e
   exact I.inj a b A' B' x y g (f a A' h1 h3) (f b B' h2 h4) h3 h4 h5 h6 h7 h8
  ·intro g c
   rcases c with c | c
   ·exact I.lt g c
   ·exact hr.lt rfl c
  ·intro g c
   rcases c with c | c
   ·exact .inl c
   ·exact .inr (.inr ⟨id, _, v, hid, rfl, hv, c⟩)
def SameC (h h1 : Heap) : Prop := ∀ i, h1 i = h i ∨ ∃ l e z xs, h i = some (.row l e z xs) ∧ h1 i = some (.row false e z xs)
theorem SameC.refl (h : Heap) : SameC h h := fun _ => .inl rfl
theorem freezeL_same (h : Heap) : ∀ L, SameC h (ups h (freezeL h L))
 | [] => SameC.refl h
 | i :: r => by
  have ih := freezeL_same h r
  unfold freezeL
  split
  ·rename_i l e z xs hi
   intro k
   simp only [ups]
   by_cases c : k = i
   ·subst c; rw [upd_same]; exact .inr ⟨_, _, _, _, hi, rfl⟩
   ·rw [upd_other _ _ _ _ c]; exact ih k
  ·exact ih
theorem freezeL_done (h : Heap) (L : List Nat) (i : Nat) (hi : i ∈ L) (l : Bool) (e z : Nat) (xs : List D) (hx : h i = some (.row l e z xs)) :
  ups h (freezeL h L) i = some (.row false e z xs) := by
 induction L with
 | nil => cases hi
 | cons k r ih =>
  unfold freezeL
  by_cases c : i = k
  ·subst c
   rw [hx]
   simp only [ups]
   rw [upd_same]
  ·have := ih (by cases hi with | head => exact absurd rfl c | tail _ m => exact m)
   split
   ·simp only [ups]; rw [upd_other _ _ _ _ c]; exact this
   ·exact this
theorem freezeL_other (h : Heap) (L : List Nat) (i : Nat) (hi : L.contains i = false) : ups h (freezeL h L) i = h i := by
 induction L with
 | nil => rfl
 | cons k r ih =>
  simp only [List.contains_cons, Bool.or_eq_false_iff, beq_eq_false_iff_ne, ne_eq] at hi
  unfold freezeL
  split
  ·simp only [ups]; rw [upd_other _ _ _ _ hi.1]; exact ih hi.2
  ·exact ih hi.2
theorem Inv.freezeL {ι : Nat → Option Value} {h : Heap} {w : World} : ∀ (L : List Nat) {imm : Nat → Prop}, Inv ι imm h w →
  ∃ imm', Inv ι imm' (ups h (freezeL h L)) w ∧ Evo ι imm h w ι imm' (ups h (freezeL h L)) w
 | [], imm, I => ⟨imm, I, .refl _ _ _ _⟩
 | i :: r, imm, I => by
  obtain ⟨imm1, I1, E1⟩ := Inv.freezeL r I
  unfold K.freezeL
  split
  ·rename_i l e z xs hi
   simp only [ups]
   have hs : ∃ l', ups h (K.freezeL h r) i = some (.row l' e z xs) := by
    rcases freezeL_same h r i with c | ⟨l', e', z', xs', c1, c2⟩
    ·exact ⟨l, c.trans hi⟩
    ·rw [hi] at c1; cases c1; exact ⟨false, c2⟩
   obtain ⟨l', hs⟩ := hs
   obtain ⟨imm2, I2, E2⟩ := I1.freeze1 hs
   exact ⟨imm2, I2, E1.trans E2⟩
  ·exact ⟨imm1, I1, E1⟩
theorem RepC.piece {imm : Nat → Prop} {w : World} {xs : List D} {g o n cap off len c sz : Nat} (h : RepC imm w (.sl xs) (.slice (some ⟨g, o, none⟩) n cap)) (hu : ∀ x, x ∈ xs → x.cells.length = sz)
  (hl : off + len ≤ xs.length) (hc : len ≤ c) : RepC imm w (.sl ((xs.drop off).take len)) (.slice (some ⟨g, o + off * sz, none⟩) len c) := by
 have hlen : ((xs.drop off).take len).length = len := by simp; omega
 by_cases hz : len = 0
 ·subst hz
  simp only [List.take_zero]
  exact .sl0 _ _
 ·cases h with
  | sl0 base cap => simp at hl; omega
  | sl _ _ _ _ sz' cs T fr hne hi hg hc' hs hb hr =>
   have hsz : sz' = sz := by
    cases xs with
    | nil => exact absurd rfl hne
    | cons a r => exact (hs a (by simp)).symm.trans (hu a (by simp))
   subst hsz
   have := RepC.sl (imm := imm) (w := w) ((xs.drop off).take len) g (o + off * sz') c sz' cs T fr (by intro e; rw [e] at hlen; simp at hlen; omega) hi hg (by omega)
    (fun x hx => hs x (List.mem_of_mem_drop (List.mem_of_mem_take hx))) (fun i j a b => by
     have := hb (off + i) j (by omega) b
     rw [Nat.add_mul] at this; omega) (fun i j a b => by
     have := hr (off + i) j (by omega) b
     have e1 : ((xs.drop off).take len).getD i .np = xs.getD (off + i) .np := by
      have : i < len := by omega
      simp [List.getD, this]
     have e2 : o + off * sz' + (i * sz' + j) = o + ((off + i) * sz' + j) := by rw [Nat.add_mul]; omega
     rw [e1, e2]; exact this)
   rw [hlen] at this
   exact this
theorem RepC.len {imm : Nat → Prop} {w : World} {xs : List D} {a : Option Addr} {n c : Nat} (h : RepC imm w (.sl xs) (.slice a n c)) : n = xs.length := by
 cases h <;> rfl
theorem toD1_rep {ι : Nat → Option Value} {imm : Nat → Prop} {h h1 : Heap} {w : World} (I : Inv ι imm h1 w) {x : V} {v : Value} {d : D}
  (hf : ∀ i, i ∈ ids1 x → ∀ l e z xs, h i = some (.row l e z xs) → h1 i = some (.row false e z xs)) (hr : RepV1 ι imm w x v) (hd : toD1 Ω h x = some d) : RepC imm w d v := by
 cases x with
 | d x => cases hd; exact hr
 | nil => cases hd; obtain rfl : v = _ := hr; exact .sl0 _ _
 | own id sz =>
  simp only [toD1] at hd
  split at hd
  ·rename_i l e z xs hid
   cases hd
   have hid1 := hf id (by simp [ids1]) _ _ _ _ hid
   obtain ⟨v', h2, h3⟩ := I.blk id _ hid1
   rw [hr.1] at h2; cases h2
   exact h3.1
  ·cases hd
 | ref id sz off len =>
  simp only [toD1] at hd
  split at hd
  ·rename_i l e z xs hid
   split at hd
   ·rename_i hz
    subst hz
    simp only [w_leb, w_nadd, w_slen, w_ssub] at hd
    by_cases hl : off + len ≤ xs.length
    rotate_left
    ·rw [decide_eq_false hl] at hd; cases hd
    rw [decide_eq_true hl] at hd
    cases hd
    have hid1 := hf id (by simp [ids1]) _ _ _ _ hid
    obtain ⟨v', h2, h3⟩ := I.blk id _ hid1
    rcases hr with ⟨g, n, cap, c, h4, rfl, h5, h6⟩ | ⟨h4, rfl, base, rfl⟩
    ·rw [h4] at h2; cases h2
     have := h3.1.piece (off := off) (len := len) (c := c) h3.2.1 hl h5
     rw [Nat.zero_add] at this
     exact this
    ·show RepC _ _ (.sl ((List.drop off xs).take 0)) _
     simp only [List.take_zero]
     exact .sl0 _ _
   ·cases hd
  ·cases hd
 | _ => cases hd
theorem toD_rep {ι : Nat → Option Value} {imm : Nat → Prop} {h h1 : Heap} {w : World} (I : Inv ι imm h1 w) {x : V} {v : Value} {d : D}
  (hf : ∀ i, i ∈ idsOf x → ∀ l e z xs, h i = some (.row l e z xs) → h1 i = some (.row false e z xs)) (hr : RepV ι imm w x v) (hd : toD Ω h x = some d) : RepD imm w d v := by
 have one : ∀ y : V, RepV1 ι imm w y v → toD1 Ω h y = some d → (∀ i, i ∈ ids1 y → ∀ l e z xs, h i = some (.row l e z xs) → h1 i = some (.row false e z xs)) → RepD imm w d v := fun y hy hdy hfy => by
  have := toD1_rep I hfy hy hdy
  cases d <;> first | exact this | cases this
 cases x with
 | agg cs =>
  obtain ⟨vs, rfl, hsz, hc⟩ := hr
  simp only [toD] at hd
  split at hd
  ·rename_i l hl
   cases hd
   have key : ∀ (cs : List V) (l : List D), allD Ω h cs = some l → l.length = cs.length ∧ ∀ j, j < cs.length → toD1 Ω h (cs.getD j .junk) = some (l.getD j .np) := by
    intro cs
    induction cs with
    | nil => intro l e; cases e; exact ⟨rfl, fun j hj => absurd hj (by simp)⟩
    | cons a r ih =>
     intro l e
     unfold allD at e
     split at e
     ·rename_i x l' ha hr'
      cases e
      obtain ⟨i1, i2⟩ := ih l' hr'
      refine ⟨by simp [i1], fun j hj => ?_⟩
      cases j with
      | zero => exact ha
      | succ j => exact i2 j (by simpa using hj)
     ·cases e
   obtain ⟨k1, k2⟩ := key cs l hl
   refine ⟨vs, rfl, by omega, fun j hj => ?_⟩
   refine toD1_rep I (fun i hi => hf i ?_) (hc j (by omega)).1 (k2 j (by omega))
   simp only [idsOf, List.mem_flatMap]
   refine ⟨cs.getD j .junk, ?_, hi⟩
   have hj' : j < cs.length := by omega
   simp [List.getD, hj']
  ·cases hd
 | d x => cases hd; exact hr
 | tup cs => cases hd
 | nil => exact one .nil hr hd hf
 | own a b => exact one (.own a b) hr hd hf
 | ref a b c e => exact one (.ref a b c e) hr hd hf
 | ptr a b => cases hd
 | ept a b c e => cases hd
 | ip a b => cases hd
 | fn f => cases hd
 | clo f a b => cases hd
 | junk => cases hd
end Go.K
end
section
namespace Go.K
open Go
theorem addr_add (g o n : Nat) : (⟨g, o, none⟩ : Addr).add n = ⟨g, o + n, none⟩ := by
 unfold Addr.add; split <;> simp_all
theorem heap_ty (w : World) (cs : Array Value) (T : TypeId) (b : Bool) : (w.alloc (.cells cs T)).heap[w.heap.size]? = some (.cells cs ((cond b (some T) none).getD T) (0, 0)) := by
 cases b <;> exact heap_alloc_new w _
theorem run_storeCells_thaw (P : Program) (g o : Nat) (t : TypeId) (fz : Nat × Nat) : ∀ (vs : List Value) (i : Nat) (cur : Array Value) (w : World), w.heap[g]? = some (.cells cur t fz) → thaw fz cur.size → o + i + vs.length ≤ cur.size → (∀ v ∈ vs, v.oneCell' = true) →
  (storeCells ⟨g, o, none⟩ vs i).run P w = .ok () (w.setRow g (cur.toList.take (o + i) ++ vs ++ cur.toList.drop (o + i + vs.length)).toArray)
 | [], i, cur, w, hg, _, _, _ => by
  simp only [storeCells, List.append_nil, List.length_nil, Nat.add_zero, List.take_append_drop, Array.toArray_toList]
  rw [setRow_self w g cur t fz hg]
  rfl
 | v :: rest, i, cur, w, hg, hfz, hl, h1 => by
  have hi : o + i < cur.size := by simp at hl; omega
  have hcell : w.cell? ⟨g, o + i, none⟩ = some cur[o + i] := by simp [World.cell?, hg, hi]
  have hfro : w.frozen? ⟨g, o + i, none⟩ = false := by
   obtain ⟨lo, hi'⟩ := fz
   simp only [World.frozen?, hg, Bool.and_eq_false_iff, decide_eq_false_iff_not]
   rcases hfz with q | q
   ·cases q; right; omega
   ·left; simp only at q; omega
  have hst : (store ((⟨g, o, none⟩ : Addr).add i) v).run P w = .ok () (w.setRow g (cur.setIfInBounds (o + i) v)) := by
   rw [addr_add, run_store P w _ v _ (h1 v (by simp)), hcell]
   simp [hfro, setCell_eq_setRow w g (o + i) cur t fz v hg]
  have ih := run_storeCells_thaw P g o t fz rest (i + 1) (cur.setIfInBounds (o + i) v) (w.setRow g (cur.setIfInBounds (o + i) v)) (setRow_heap w g cur _ t _ hg) (by simpa using hfz) (by simp at hl ⊢; omega) (fun x hx => h1 x (by simp [hx]))
  simp only [storeCells, Sem.run_bind, hst, Result.andThen_ok, ih, setRow_setRow]
  congr 3
  have e := list_seg_step cur.toList (o + i) v rest (by simp at hl ⊢; omega)
  simpa [Array.toList_setIfInBounds, Nat.add_assoc] using e
section
variable {P : Program} {T : TypeId} {i : TInfo}
theorem TOk.run_size (h : TOk P T i) (w : World) : (sizeOf T).run P w = .ok i.size w := by
 obtain ⟨info, h1, h2, _⟩ := h.ok
 simp [sizeOf, typeInfo, h1, h2]
theorem TOk.run_isAgg (h : TOk P T i) (w : World) : (isAgg T).run P w = .ok (isAggT i.und) w := by
 have := h.und
 cases hu : i.und <;> rw [hu] at this <;> simp [isAgg, run_underlying this, isAggT]
theorem TOk.run_zero (h : TOk P T i) {z : Value} (hz : i.zero = some z) (w : World) : (zeroValue T).run P w = .ok z w := by
 obtain ⟨info, h1, _, _, h4⟩ := h.ok
 simp [zeroValue, typeInfo, h1, h4.trans hz]
theorem run_loadVar_at (h : TOk P T i) (w : World) {g off : Nat} {vs : Array Value} {T' : TypeId} {fr : Nat × Nat} (hg : w.heap[g]? = some (.cells vs T' fr)) (hfit : off + i.size ≤ vs.size)
  (h1 : isAggT i.und = false → i.size = 1) :
  (loadVar T ⟨g, off, none⟩).run P w = .ok (if isAggT i.und then .agg ((List.range i.size).map fun j => vs.getD (off + j) undef).toArray else vs.getD off undef) w := by
 have hc : ∀ j, off + j < vs.size → w.cell? ⟨g, off + j, none⟩ = some (vs.getD (off + j) undef) := fun j hj => by
  simp [World.cell?, hg, Array.getD, hj]
 unfold loadVar
 rw [Sem.run_bind, h.run_isAgg]
 cases ha : isAggT i.und with
 | true =>
  have := run_loadCells (P := P) w ⟨g, off, none⟩ i.size (fun j => vs.getD (off + j) undef) (fun j hj => by rw [addr_add]; exact hc j (by omega))
  simp [h.run_size, this]
 | false =>
  have h1' := h1 ha
  have := hc 0 (by omega)
  simp only [Nat.add_zero] at this
  simp [this]
theorem run_storeVar_at (h : TOk P T i) (w : World) {g off : Nat} {cur : Array Value} {T' : TypeId} {fr : Nat × Nat} (hg : w.heap[g]? = some (.cells cur T' fr)) (hfr : thaw fr cur.size) {v : Value} (hs : v.cells.size = i.size)
  (hfit : off + i.size ≤ cur.size) (h1 : ∀ j, j < i.size → (v.cells.getD j undef).oneCell' = true) :
  (storeVar T ⟨g, off, none⟩ v).run P w = .ok () (w.setRow g (cur.toList.take off ++ v.cells.toList ++ cur.toList.drop (off + i.size)).toArray) := by
 have := run_storeCells_thaw P g off T' fr v.cells.toList 0 cur w hg hfr (by simpa [hs] using hfit) (fun x hx => by
  obtain ⟨j, hj, rfl⟩ := List.mem_iff_getElem.1 hx
  have hj' : j < v.cells.size := by simpa using hj
  have := h1 j (by omega)
  simpa [Array.getD, hj'] using this)
 unfold storeVar
 simp only [Sem.run_bind, h.run_size, Result.andThen_ok, hs, ne_eq, not_true_eq_false, if_false]
 simpa [hs] using this
end
theorem run_fieldAt {P : Program} {T : TypeId} {i : TInfo} (h : TOk P T i) {fs : Array Field} (hu : i.und = .struct fs) {f : Nat} {fd : Field} (hf : fs[f]? = some fd) {j : TInfo} (hj : TOk P fd.type j) (hs : 0 < j.size)
  (w : World) (g off : Nat) : (Instr.fieldAt T (.pointer (some ⟨g, off, none⟩)) f).run P w = .ok (.pointer (some ⟨g, off + fd.offset, none⟩)) w := by
 have := h.und
 rw [hu] at this
 have hne : ¬ j.size = 0 := by omega
 simp [Instr.fieldAt, run_underlying this, hf, Instr.sureAddr, fieldPlace, hj.run_size, hne, addr_add]
end Go.K
end
section
namespace Go.K
open Go
def Done (ι : Nat → Option Value) (imm : Nat → Prop) (h : Heap) (w : World) (K : Out → Prop) (r : Result Next) : Prop :=
 ∃ out v w' ι' imm', (r = .ok (.value v) w' ∨ (r = .ok .skip w' ∧ v = undef)) ∧ K out ∧ Evo ι imm h w ι' imm' (ups h out.upd) w' ∧ Inv ι' imm' (ups h out.upd) w' ∧ RepV ι' imm' w' out.v v
section
variable {ι : Nat → Option Value} {imm : Nat → Prop} {h : Heap} {w : World} {K : Out → Prop}
theorem Done.val {r : Result Next} {x : V} {v : Value} {rd : List Nat} (I : Inv ι imm h w) (hr : r = .ok (.value v) w) (hK : K { v := x, rd := rd }) (hR : RepV ι imm w x v) : Done ι imm h w K r :=
 ⟨_, v, w, ι, imm, .inl hr, hK, .refl _ _ _ _, I, hR⟩
theorem Done.drew {r : Result Next} {x : V} {v : Value} {rd : List Nat} (I : Inv ι imm h w) (hr : r = .ok (.value v) w) (hK : K { v := x, rd := rd }) (hR : RepV ι imm w x v) : Done ι imm h w K r := Done.val I hr hK hR
variable {P : Program} {E : Env} {draw : Bool} {ev : Operand → V} {ρ : Operand → Value} {o : Oper} {id : Nat}
theorem repB {t : Bool} {v : Value} (h : RepV ι imm w (.d (.b t)) v) : v = .bool t := by cases h; rfl
theorem repI {k : IntKind} {n : Int} {v : Value} (h : RepV ι imm w (.d (.i k n)) v) : v = .int k n := by cases h; rfl
theorem repS {b : ByteArray} {v : Value} (h : RepV ι imm w (.d (.s b)) v) : v = .string b := by cases h; rfl
theorem repSl {xs : List D} {v : Value} (h : RepV ι imm w (.d (.sl xs)) v) : ∃ a c, v = .slice a xs.length c ∧ RepC imm w (.sl xs) (.slice a xs.length c) := by
 have h' : RepC imm w (.sl xs) v := h
 cases h with
 | sl0 base cap => exact ⟨base, cap, rfl, h'⟩
 | sl _ g off cap => exact ⟨_, cap, rfl, h'⟩
theorem repFn {f : FuncId} {v : Value} (h : RepV ι imm w (.fn f) v) : v = .func (.func f) #[] #[] := h
theorem shape_take {agg : Bool} {n off : Nat} {cs : List V} {vs : Array Value} (hs : vs.size = cs.length) (hc : ∀ j, j < cs.length → RepV1 ι imm w (cs.getD j .junk) (vs.getD j undef) ∧ (vs.getD j undef).oneCell' = true)
  (hfit : off + n ≤ cs.length) (h1 : agg = false → n = 1) :
  RepV ι imm w (shapeV agg ((cs.drop off).take n)) (if agg then .agg ((List.range n).map fun j => vs.getD (off + j) undef).toArray else vs.getD off undef) := by
 have e : ∀ j, j < n → ((cs.drop off).take n).getD j .junk = cs.getD (off + j) .junk := fun j hj => by simp [List.getD, hj]
 cases agg with
 | true =>
  refine shape_rep (by simp; omega) fun j hj => ?_
  have hj' : j < n := by simp at hj; omega
  rw [e j hj']
  have : ((List.range n).map fun j => vs.getD (off + j) undef).toArray.getD j undef = vs.getD (off + j) undef := by simp [Array.getD, hj']
  rw [this]
  exact hc (off + j) (by omega)
 | false =>
  have hn := h1 rfl
  subst hn
  have := e 0 (by omega)
  have h2 : shapeV false ((cs.drop off).take 1) = cs.getD off .junk := by
   have hlt : off < cs.length := by omega
   simp [shapeV, List.headD, List.getD, hlt, List.take_one, List.head?_drop]
  rw [h2]
  exact V0_of_V1 (hc off (by omega)).1
theorem load_D {x : D} {n off : Nat} {agg : Bool} {vs : Array Value} {b : Nat} (hc : ∀ j, j < x.cells.length → RepC imm w (x.cells.getD j .np) (vs.getD (b + j) undef))
  (hfit : off + n ≤ x.cells.length) (h1 : agg = false → n = 1) :
  RepV ι imm w (.d (loadD x off n agg)) (if agg then .agg ((List.range n).map fun j => vs.getD (b + off + j) undef).toArray else vs.getD (b + off) undef) := by
 cases agg with
 | false =>
  have := hc off (by have := h1 rfl; omega)
  simp only [loadD, Bool.false_eq_true, if_false]
  exact V0_of_V1 (x := .d _) this
 | true =>
  simp only [loadD, if_true]
  have key : ∀ cs : List D, cs = (x.cells.drop off).take n → RepV ι imm w (.d (.agg cs)) (.agg ((List.range n).map fun j => vs.getD (b + off + j) undef).toArray) := by
   rintro cs rfl
   refine ⟨_, rfl, by simp; omega, fun j hj => ?_⟩
   have hj' : j < n := by simp at hj; omega
   have e : ((x.cells.drop off).take n).getD j .np = x.cells.getD (off + j) .np := by simp [List.getD, hj']
   rw [e]
   have : ((List.range n).map fun j => vs.getD (b + off + j) undef).toArray.getD j undef = vs.getD (b + (off + j)) undef := by simp [Array.getD, hj', Nat.add_assoc]
   rw [this]
   exact hc (off + j) (by omega)
  split
  ·rename_i hx
   simp only [Bool.and_eq_true, beq_iff_eq] at hx
   obtain ⟨⟨a1, a2⟩, a3⟩ := hx
   cases x <;> first | cases a1 | skip
   rename_i cs
   refine key cs ?_
   simp only [D.cells] at a3 ⊢
   subst a2
   rw [List.drop_zero, List.take_of_length_le (by omega)]
  ·exact key _ rfl
section
variable (I : Inv ι imm h w) (tt : TTok P E.tt) (he : ∀ x, RepV ι imm w (ev x) (ρ x))
include I he
theorem op_move {x : Operand} (ho : o.op = .move x) (hK : opR Ω E draw ev h o.op id K) : Done ι imm h w K ((execOp ρ o).run P w) := by
 rw [ho] at hK
 exact Done.val I (by simp [execOp, ho]) hK (he x)
theorem op_assign {x : Operand} (ho : o.op = .assign x) (hK : opR Ω E draw ev h o.op id K) : Done ι imm h w K ((execOp ρ o).run P w) := by
 rw [ho] at hK
 exact Done.val I (by simp [execOp, ho]) hK (he x)
theorem op_pick {c a b : Operand} (ho : o.op = .pick c a b) (hK : opR Ω E draw ev h o.op id K) : Done ι imm h w K ((execOp ρ o).run P w) := by
 rw [ho] at hK
 simp only [opR, w_slen, w_sget, w_ssub, w_sset, w_srep, w_scat, BrG_eq, DK_eq, w_ci, w_iand, w_ior, w_ixor, w_ishl, w_ishr, w_wrap, w_tmod, w_lt, w_le, w_eq, w_ne, w_ile, w_ilt, w_tn, w_nadd, w_nsub, w_nlt, w_leb, w_room, w_imax, w_imin, w_bget, w_bext, w_bcat, w_bsz, w_beqs] at hK
 split at hK
 ·rename_i t hc
  have h1 := he c
  rw [hc] at h1
  have h2 := repB h1
  refine Done.val (v := if t then ρ a else ρ b) I (by simp [execOp, ho, h2, asBool]) hK ?_
  cases t
  ·exact he b
  ·exact he a
 ·exact hK.elim
theorem op_nilCheck {x : Operand} (ho : o.op = .nilCheck x) (hK : opR Ω E draw ev h o.op id K) : Done ι imm h w K ((execOp ρ o).run P w) := by
 rw [ho] at hK
 have h1 := he x
 simp only [opR, w_slen, w_sget, w_ssub, w_sset, w_srep, w_scat, BrG_eq, DK_eq, w_ci, w_iand, w_ior, w_ixor, w_ishl, w_ishr, w_wrap, w_tmod, w_lt, w_le, w_eq, w_ne, w_ile, w_ilt, w_tn, w_nadd, w_nsub, w_nlt, w_leb, w_room, w_imax, w_imin, w_bget, w_bext, w_bcat, w_bsz, w_beqs] at hK
 split at hK
 ·rename_i j off hc
  rw [hc] at h1
  obtain ⟨g, h2, h3⟩ := h1
  exact Done.val (v := ρ x) I (by simp [execOp, ho, h3]) hK ⟨g, h2, h3⟩
 ·rename_i j sz i off hc
  rw [hc] at h1
  obtain ⟨g, n, cap, h2, h3⟩ := h1
  exact Done.val (v := ρ x) I (by simp [execOp, ho, h3]) hK ⟨g, n, cap, h2, h3⟩
 ·rename_i y off hc
  rw [hc] at h1
  have h1' := h1
  obtain ⟨g, n, cs, T, fr, h2, h3, h4, h5⟩ := h1
  exact Done.val (v := ρ x) I (by simp [execOp, ho, h4]) hK h1'
 ·rename_i f hc
  rw [hc] at h1
  have h3 := repFn h1
  exact Done.val (v := ρ x) I (by simp [execOp, ho, h3]) hK h1
 ·rename_i f a b hc
  rw [hc] at h1
  have h1' := h1
  obtain ⟨fs, vs, h3, _, _⟩ := h1
  exact Done.val (v := ρ x) I (by simp [execOp, ho, h3]) hK h1'
 ·exact hK.elim
theorem op_box {T : TypeId} {x : Operand} (ho : o.op = .box T x) (hK : opR Ω E draw ev h o.op id K) : Done ι imm h w K ((execOp ρ o).run P w) := by
 rw [ho] at hK
 simp only [opR, w_slen, w_sget, w_ssub, w_sset, w_srep, w_scat, BrG_eq, DK_eq, w_ci, w_iand, w_ior, w_ixor, w_ishl, w_ishr, w_wrap, w_tmod, w_lt, w_le, w_eq, w_ne, w_ile, w_ilt, w_tn, w_nadd, w_nsub, w_nlt, w_leb, w_room, w_imax, w_imin, w_bget, w_bext, w_bcat, w_bsz, w_beqs] at hK
 split at hK
 ·rename_i l hl
  obtain ⟨hid, hK⟩ := hK
  have hi : ∀ j v', ι j = some v' → upd ι id (some (.pointer (some ⟨w.heap.size, 0, none⟩))) j = some v' := fun j v' e => by
   by_cases c : j = id
   ·subst c; rw [I.non j hid] at e; cases e
   ·rw [upd_other _ _ _ _ c]; exact e
  have hrep : RepV (upd ι id (some (.pointer (some ⟨w.heap.size, 0, none⟩)))) imm (w.alloc (.cells (ρ x).cells T)) (ev x) (ρ x) :=
   (he x).mono hi (fun g e => ⟨e, heap_alloc_old w _ g (I.lt g e)⟩)
  obtain ⟨c1, c2⟩ := cells_rep hrep hl
  have st := I.fresh hid (.pointer (some ⟨w.heap.size, 0, none⟩)) (.var l (cond (E.ty T) (some T) none)) (w' := w.alloc (.cells (ρ x).cells T)) (by simp) (fun g hg => heap_alloc_old w _ g hg) rfl rfl rfl
   (fun g hg => by cases hg; exact Nat.le_refl _) ⟨w.heap.size, (ρ x).cells, T, rfl, heap_ty w _ T _, c1, c2⟩
  refine ⟨_, .pointer (some ⟨w.heap.size, 0, none⟩), w.alloc (.cells (ρ x).cells T), _, imm, .inl ?_, hK, st.2, st.1, ⟨w.heap.size, upd_same _ _ _, rfl⟩⟩
  simp [execOp, ho, Instr.box, newVar, newRow]
 ·exact hK.elim
theorem op_extract {x : Operand} {k : Nat} (ho : o.op = .extract x k) (hK : opR Ω E draw ev h o.op id K) : Done ι imm h w K ((execOp ρ o).run P w) := by
 rw [ho] at hK
 have h1 := he x
 simp only [opR, w_slen, w_sget, w_ssub, w_sset, w_srep, w_scat, BrG_eq, DK_eq, w_ci, w_iand, w_ior, w_ixor, w_ishl, w_ishr, w_wrap, w_tmod, w_lt, w_le, w_eq, w_ne, w_ile, w_ilt, w_tn, w_nadd, w_nsub, w_nlt, w_leb, w_room, w_imax, w_imin, w_bget, w_bext, w_bcat, w_bsz, w_beqs] at hK
 split at hK
 ·rename_i cs hc
  split at hK
  ·rename_i v hv
   rw [hc] at h1
   obtain ⟨vs, h2, h3, h4⟩ := h1
   have hk : k < cs.length := (List.getElem?_eq_some_iff.1 hv).1
   have h5 := h4 k hk
   have e : cs.getD k .junk = v := by simp [List.getD, hv]
   rw [e] at h5
   have hr : (Instr.extract (ρ x) k).run P w = .ok (vs.getD k undef) w := by
    have : vs[k]? = some (vs.getD k undef) := by
     have : k < vs.size := by omega
     simp [Array.getD, this]
    rw [h2]
    simp only [Instr.extract]
    rw [this]
    rfl
   refine Done.val (v := vs.getD k undef) I (by simp [execOp, ho, hr]) hK ?_
   cases v <;> first | exact h5 | exact h5.elim
  ·exact hK.elim
 ·exact hK.elim
include tt
theorem op_alloc {T : TypeId} (ho : o.op = .alloc T) (hK : opR Ω E draw ev h o.op id K) : Done ι imm h w K ((execOp ρ o).run P w) := by
 rw [ho] at hK
 simp only [opR, w_slen, w_sget, w_ssub, w_sset, w_srep, w_scat, BrG_eq, DK_eq, w_ci, w_iand, w_ior, w_ixor, w_ishl, w_ishr, w_wrap, w_tmod, w_lt, w_le, w_eq, w_ne, w_ile, w_ilt, w_tn, w_nadd, w_nsub, w_nlt, w_leb, w_room, w_imax, w_imin, w_bget, w_bext, w_bcat, w_bsz, w_beqs] at hK
 split at hK
 ·rename_i sz by' z und ht
  have hT := tt _ _ ht
  split at hK
  ·rename_i l hl
   obtain ⟨hid, hK⟩ := hK
   have hrep := constV_rep (upd ι id (some (.pointer (some ⟨w.heap.size, 0, none⟩)))) imm (w.alloc (.cells z.cells T)) z
   obtain ⟨c1, c2⟩ := cells_rep hrep hl
   have st := I.fresh hid (.pointer (some ⟨w.heap.size, 0, none⟩)) (.var l (cond (E.ty T) (some T) none)) (w' := w.alloc (.cells z.cells T)) (by simp) (fun g hg => heap_alloc_old w _ g hg) rfl rfl rfl
    (fun g hg => by cases hg; exact Nat.le_refl _) ⟨w.heap.size, z.cells, T, rfl, heap_ty w _ T _, c1, c2⟩
   refine ⟨_, .pointer (some ⟨w.heap.size, 0, none⟩), w.alloc (.cells z.cells T), _, imm, .inl ?_, hK, st.2, st.1, ⟨w.heap.size, upd_same _ _ _, rfl⟩⟩
   simp [execOp, ho, Instr.alloc, hT.run_zero rfl, newVar, newRow]
  ·exact hK.elim
 ·exact hK.elim
theorem op_load {T : TypeId} {x : Operand} (ho : o.op = .load T x) (hK : opR Ω E draw ev h o.op id K) : Done ι imm h w K ((execOp ρ o).run P w) := by
 rw [ho] at hK
 have h1 := he x
 simp only [opR, w_slen, w_sget, w_ssub, w_sset, w_srep, w_scat, BrG_eq, DK_eq, w_ci, w_iand, w_ior, w_ixor, w_ishl, w_ishr, w_wrap, w_tmod, w_lt, w_le, w_eq, w_ne, w_ile, w_ilt, w_tn, w_nadd, w_nsub, w_nlt, w_leb, w_room, w_imax, w_imin, w_bget, w_bext, w_bcat, w_bsz, w_beqs] at hK
 split at hK
 ·rename_i i j off ht hx
  have hT := tt _ _ ht
  rw [hx] at h1
  obtain ⟨g, h2, h3⟩ := h1
  split at hK
  ·rename_i cs hj
   obtain ⟨hfit, hone, hK⟩ := hK
   obtain ⟨v', h4, g', vs, T', h5, h6, h7, h8⟩ := I.blk j _ hj
   rw [h2] at h4; cases h4; cases h5
   have hr := run_loadVar_at hT w (off := off) h6 (by omega) hone.one
   refine Done.val I ?_ hK (shape_take h7 h8 hfit hone.one)
   simp only [execOp, ho, h3, Instr.loadAt, Instr.sureAddr, Sem.run_bind, Sem.run_pure, Result.andThen_ok, hr]
  ·exact hK.elim
 ·rename_i i j sz k off ht hx
  have hT := tt _ _ ht
  rw [hx] at h1
  obtain ⟨g, n, cap, h2, h3⟩ := h1
  split at hK
  ·rename_i l e z xs hj
   obtain ⟨rfl, y, hy, hfit, hone, hK⟩ := hK
   obtain ⟨v', h4, h5⟩ := I.blk j _ hj
   rw [h2] at h4; cases h4
   have hk : k < xs.length := (List.getElem?_eq_some_iff.1 hy).1
   have ey : xs.getD k .np = y := by simp [List.getD, hy]
   have hym : y ∈ xs := List.mem_of_getElem? hy
   have hrow : ∃ vs T' fr, w.heap[g]? = some (.cells vs T' fr) ∧ y.cells.length = z ∧ k * z + z ≤ vs.size ∧ ∀ m, m < y.cells.length → RepC imm w (y.cells.getD m .np) (vs.getD (k * z + m) undef) := by
    have hmul : k * z + z ≤ xs.length * z := by
     have := Nat.mul_le_mul_right z (Nat.succ_le_of_lt hk)
     rw [Nat.succ_mul] at this; exact this
    cases l with
    | true =>
     obtain ⟨cells, ho', h6, h7⟩ := h5
     rcases ho'.2 with ⟨c, _⟩ | ⟨g', cap', cur, fr, c, _, h8, _, h9, _, h10, h11⟩
     ·cases c
     ·cases c
      have hcs : xs.length * z ≤ cur.size := Nat.le_trans (Nat.mul_le_mul_right _ h9) h10
      refine ⟨cur, e, fr, h8, h6 y hym, by omega, fun m hm => ?_⟩
      rw [h6 y hym] at hm
      have := h7 k m hk hm
      rw [ey] at this
      have e2 : cells.getD (k * z + m) undef = cur.getD (k * z + m) undef := by
       rw [← h11]
       have h12 : k * z + m < xs.length * z := by omega
       have h13 : k * z + m < cur.size := by omega
       simp [List.getD, h12, Array.getD, h13]
      rw [← e2]; exact this
    | false =>
     obtain ⟨h6, h7, _⟩ := h5
     cases h6 with
     | sl0 base cap => simp at hk
     | sl _ _ _ _ sz' cs T' fr hne hi hg hc' hs hb hr =>
      have hsz : sz' = z := (hs y hym).symm.trans (h7 y hym)
      subst hsz
      refine ⟨cs, T', fr, hg, h7 y hym, ?_, fun m hm => ?_⟩
      ·by_cases hz : sz' = 0
       ·subst hz; simp
       ·have := hb k (sz' - 1) hk (by omega); omega
      ·rw [h7 y hym] at hm
       have := hr k m hk hm
       rw [ey] at this
       rw [Nat.zero_add] at this
       exact this
   obtain ⟨vs, T', fr, h6, h7, h8, h9⟩ := hrow
   have := load_D (ι := ι) (b := k * z) (off := off) (n := i.size) (agg := isAggT i.und) h9 hfit hone.one
   have hr := run_loadVar_at hT w (off := k * z + off) h6 (by omega) hone.one
   refine Done.val I ?_ hK this
   simp only [execOp, ho, h3, Instr.loadAt, Instr.sureAddr, Sem.run_bind, Sem.run_pure, Result.andThen_ok, hr]
  ·exact hK.elim
 ·rename_i i y off ht hx
  have hT := tt _ _ ht
  rw [hx] at h1
  obtain ⟨g, b, cs, T', fr, h2, h3, h4, h5⟩ := h1
  obtain ⟨hpos, hfit, hone, hK⟩ := hK
  have hb : b + off + i.size ≤ cs.size := by
   have := (h5 (off + i.size - 1) (by omega)).1; omega
  have hr := run_loadVar_at hT w (off := b + off) h3 hb hone.one
  have := load_D (ι := ι) (b := b) (off := off) (n := i.size) (agg := isAggT i.und) (fun j hj => (h5 j hj).2) hfit hone.one
  refine Done.val I ?_ hK this
  simp only [execOp, ho, h4, Instr.loadAt, Instr.sureAddr, Sem.run_bind, Sem.run_pure, Result.andThen_ok, hr]
 ·exact hK.elim
end
end
end Go.K
end
