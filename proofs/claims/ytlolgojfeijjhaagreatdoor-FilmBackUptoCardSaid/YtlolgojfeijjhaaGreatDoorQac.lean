/-
  Parts of the proof, joined by a program of this work: KOps2, KOps3.
-/
import Derived.Test.YtlolgojfeijjhaaGreatDoorQab
import Derived.Laws.Cover3
set_option linter.unusedSectionVars false
set_option linter.unusedSimpArgs false
set_option linter.unusedVariables false
section
namespace Go.K
open Go
theorem row_set {imm : Nat → Prop} {w : World} {xs : List D} {sz k : Nat} {cur : Array Value} {y : D} {vs : Array Value} (hu : ∀ x, x ∈ xs → x.cells.length = sz) (hk : k < xs.length) (hy : y.cells.length = sz)
  (hfit : xs.length * sz ≤ cur.size) (hvs : vs.size = sz) (hc : ∀ i j, i < xs.length → j < sz → RepC imm w ((xs.getD i .np).cells.getD j .np) (cur.getD (i * sz + j) undef))
  (hv : ∀ j, j < sz → RepC imm w (y.cells.getD j .np) (vs.getD j undef)) :
  ∀ i j, i < (xs.set k y).length → j < sz → RepC imm w (((xs.set k y).getD i .np).cells.getD j .np) ((cur.toList.take (k * sz) ++ vs.toList ++ cur.toList.drop (k * sz + sz)).toArray.getD (i * sz + j) undef) := by
 intro i j hi hj
 have hi' : i < xs.length := by simpa using hi
 have hmul : ∀ a b, a < b → b ≤ xs.length → a * sz + sz ≤ b * sz := fun a b h _ => by
  have := Nat.mul_le_mul_right sz (Nat.succ_le_of_lt h); rw [Nat.succ_mul] at this; exact this
 have hkk := hmul k xs.length hk (Nat.le_refl _)
 have hii := hmul i xs.length hi' (Nat.le_refl _)
 have hlen : (cur.toList.take (k * sz)).length = k * sz := by simp; omega
 have hlen2 : vs.toList.length = sz := by simp [hvs]
 have hget : ∀ m, (cur.toList.take (k * sz) ++ vs.toList ++ cur.toList.drop (k * sz + sz)).toArray.getD m undef =
   if m < k * sz then cur.getD m undef else if m < k * sz + sz then vs.getD (m - k * sz) undef else cur.getD m undef := by
  intro m
  simp only [Array.getD_eq_getD_getElem?, List.getElem?_toArray, List.getElem?_append, hlen, List.length_append, hlen2, List.getElem?_take, List.getElem?_drop]
  by_cases h1 : m < k * sz
  ·have h2 : m < k * sz + sz := by omega
   simp [h1, h2]
  ·by_cases h2 : m < k * sz + sz
   ·simp [h1, h2]
   ·have e : k * sz + sz + (m - (k * sz + sz)) = m := by omega
    simp [h1, h2, e]
 rw [hget]
 by_cases hik : i = k
 ·subst hik
  have e : (xs.set i y).getD i .np = y := by simp [List.getD, hi']
  rw [e, if_neg (by omega), if_pos (by omega), show i * sz + j - i * sz = j by omega]
  exact hv j hj
 ·have e : (xs.set k y).getD i .np = xs.getD i .np := by simp [List.getD, List.getElem?_set_ne (Ne.symm hik)]
  rw [e]
  have : ¬ (k * sz ≤ i * sz + j ∧ i * sz + j < k * sz + sz) := by
   intro ⟨a, b⟩
   rcases Nat.lt_or_ge i k with h | h
   ·have := hmul i k h (by omega); omega
   ·have := hmul k i (by omega) (by omega); omega
  by_cases h1 : i * sz + j < k * sz
  ·rw [if_pos h1]; exact hc i j hi' hj
  ·rw [if_neg h1, if_neg (by omega)]; exact hc i j hi' hj
theorem store_elem {ι : Nat → Option Value} {imm imm1 : Nat → Prop} {h h1 : Heap} {w : World} (I1 : Inv ι imm1 h1 w) (E1 : Evo ι imm h w ι imm1 h1 w) {j k z g cap : Nat} {e : TypeId} {xs : List D} {cur vs new : Array Value} {Z : D}
  (hj1 : h1 j = some (.row true e z xs)) (h2' : ι j = some (.slice (some ⟨g, 0, none⟩) xs.length cap)) (h6 : ∀ x, x ∈ xs → x.cells.length = z) (hk : k < xs.length)
  {fr : Nat × Nat} (h8 : w.heap[g]? = some (.cells cur e fr)) (ht : thaw fr cur.size) (h9 : xs.length ≤ cap) (hcm : cap ≤ maxLen) (h10 : cap * z ≤ cur.size) (hcs : xs.length * z ≤ cur.size)
  (hcell : ∀ i j, i < xs.length → j < z → RepC imm1 w ((xs.getD i .np).cells.getD j .np) (cur.getD (i * z + j) undef))
  (hZ : Z.cells.length = z) (hvs : vs.size = z) (hv : ∀ m, m < z → RepC imm1 w (Z.cells.getD m .np) (vs.getD m undef))
  (hnew : new = (cur.toList.take (k * z) ++ vs.toList ++ cur.toList.drop (k * z + z)).toArray) :
  Inv ι imm1 (upd h1 j (some (.row true e z (xs.set k Z)))) (w.setRow g new) ∧ Evo ι imm h w ι imm1 (upd h1 j (some (.row true e z (xs.set k Z)))) (w.setRow g new) := by
 have hmul : k * z + z ≤ xs.length * z := by
  have := Nat.mul_le_mul_right z (Nat.succ_le_of_lt hk); rw [Nat.succ_mul] at this; exact this
 subst hnew
 have hmono : ∀ g', imm1 g' → imm1 g' ∧ (w.setRow g (cur.toList.take (k * z) ++ vs.toList ++ cur.toList.drop (k * z + z)).toArray).heap[g']? = w.heap[g']? := fun g' hg' =>
  ⟨hg', setRow_other w g g' _ (fun e' => by subst e'; exact I1.own g' ⟨j, _, _, hj1, rfl, h2', rfl⟩ hg')⟩
 have st := I1.wrote hj1 rfl h2' (B := .row true e z (xs.set k Z)) (w' := w.setRow g (cur.toList.take (k * z) ++ vs.toList ++ cur.toList.drop (k * z + z)).toArray) (by simp)
  (fun g' hg' => setRow_other w g g' _ (fun e' => by subst e'; exact hg' rfl)) rfl rfl rfl ?_
 ·exact ⟨st.1, E1.trans st.2⟩
 ·have hl : (xs.set k Z).length = xs.length := by simp
  have hnew := row_set (imm := imm1) (w := w) h6 hk hZ hcs (vs := vs) hvs hcell hv
  refine ⟨((cur.toList.take (k * z) ++ vs.toList ++ cur.toList.drop (k * z + z)).take (xs.length * z)), ⟨?_, .inr ⟨g, cap, _, fr, ?_, Nat.zero_le _, setRow_heap w g cur _ e _ h8, ?_, ?_, hcm, ?_, ?_⟩⟩, ?_, ?_⟩
  ·simp; omega
  ·rw [hl]
  ·have es : (cur.toList.take (k * z) ++ vs.toList ++ cur.toList.drop (k * z + z)).toArray.size = cur.size := by simp; omega
   rw [es]; exact ht
  ·rw [hl]; exact h9
  ·simp; omega
  ·simp
  ·intro x hx
   rcases List.mem_or_eq_of_mem_set hx with hx | hx
   ·exact h6 x hx
   ·subst hx; omega
  ·intro a b ha hb
   have := (hnew a b ha hb).mono hmono
   have hm : a * z + b < xs.length * z := by
    rw [hl] at ha
    have := Nat.mul_le_mul_right z (Nat.succ_le_of_lt ha); rw [Nat.succ_mul] at this; omega
   have e3 : ((cur.toList.take (k * z) ++ vs.toList ++ cur.toList.drop (k * z + z)).take (xs.length * z)).getD (a * z + b) undef = (cur.toList.take (k * z) ++ vs.toList ++ cur.toList.drop (k * z + z)).toArray.getD (a * z + b) undef := by
    rw [List.getD_eq_getElem?_getD, List.getElem?_take, if_pos hm, Array.getD_eq_getD_getElem?, List.getElem?_toArray]
   rw [e3]
   exact this
theorem part_cells (cur c : List Value) (a off s z : Nat) (h1 : off + s ≤ z) (h2 : a + z ≤ cur.length) (h3 : c.length = s) :
  cur.take (a + off) ++ c ++ cur.drop (a + off + s) = cur.take a ++ ((cur.drop a).take off ++ c ++ (cur.drop (a + off + s)).take (z - off - s)) ++ cur.drop (a + z) := by
 have e1 : cur.take (a + off) = cur.take a ++ (cur.drop a).take off := List.take_add ..
 have e2 : cur.drop (a + z) = (cur.drop (a + off + s)).drop (z - off - s) := by rw [List.drop_drop]; congr 1; omega
 rw [e1, e2]
 simp only [List.append_assoc, List.take_append_drop]
section
variable {ι : Nat → Option Value} {imm : Nat → Prop} {h : Heap} {w : World} {K : Out → Prop}
variable {P : Program} {E : Env} {draw : Bool} {ev : Operand → V} {ρ : Operand → Value} {o : Oper} {id : Nat}
theorem repD_cells {x : D} {v : Value} (hr : RepD imm w x v) : v.cells.size = x.cells.length ∧ ∀ j, j < x.cells.length → RepC imm w (x.cells.getD j .np) (v.cells.getD j undef) := by
 have h0 : RepV (fun _ => none) imm w (.d x) v := hr
 obtain ⟨h1, h2⟩ := cells_rep (l := x.cells.map V.d) h0 rfl
 refine ⟨by simpa using h1, fun j hj => ?_⟩
 have := (h2 j (by simpa using hj)).1
 have e : (x.cells.map V.d).getD j .junk = .d (x.cells.getD j .np) := by simp [List.getD, hj]
 rw [e] at this
 exact this
variable (I : Inv ι imm h w) (tt : TTok P E.tt) (he : ∀ x, RepV ι imm w (ev x) (ρ x))
include I tt he
theorem op_store {T : TypeId} {x y : Operand} (ho : o.op = .store T x y) (hK : opR Ω E draw ev h o.op id K) : Done ι imm h w K ((execOp ρ o).run P w) := by
 rw [ho] at hK
 have h1 := he x
 simp only [opR, w_slen, w_sget, w_ssub, w_sset, w_srep, w_scat, BrG_eq, DK_eq, w_ci, w_iand, w_ior, w_ixor, w_ishl, w_ishr, w_wrap, w_tmod, w_lt, w_le, w_eq, w_ne, w_ile, w_ilt, w_tn, w_nadd, w_nsub, w_nlt, w_leb, w_room, w_imax, w_imin, w_bget, w_bext, w_bcat, w_bsz, w_beqs] at hK
 split at hK
 ·rename_i i j off ht hx
  have hT := tt _ _ ht
  rw [hx] at h1
  obtain ⟨g, h2, h3⟩ := h1
  split at hK
  ·rename_i cs vt hj
   split at hK
   ·rename_i l hl
    obtain ⟨hlen, hfit, hK⟩ := hK
    obtain ⟨v', h4, g', vs, T', h5, h6, h7, h8⟩ := I.blk j _ hj
    have hv' := h4
    rw [h2] at h4; cases h4; cases h5
    obtain ⟨c1, c2⟩ := cells_rep (he y) hl
    have hs : (ρ y).cells.size = i.size := by omega
    have hr := run_storeVar_at hT w (off := off) h6 (.inl rfl) hs (by omega) (fun m hm => (c2 m (by omega)).2)
    have hmono : ∀ g', imm g' → imm g' ∧ (w.setRow g (vs.toList.take off ++ (ρ y).cells.toList ++ vs.toList.drop (off + i.size)).toArray).heap[g']? = w.heap[g']? := fun g' hg' =>
     ⟨hg', setRow_other w g g' _ (fun e => by subst e; exact I.own g' ⟨j, _, _, hj, rfl, h2, rfl⟩ hg')⟩
    have st := I.wrote hj rfl h2 (B := .var (cs.take off ++ l ++ cs.drop (off + i.size)) vt) (w' := w.setRow g (vs.toList.take off ++ (ρ y).cells.toList ++ vs.toList.drop (off + i.size)).toArray) (by simp)
     (fun g' hg' => setRow_other w g g' _ (fun e => by subst e; exact hg' rfl)) rfl rfl rfl ?_
    ·refine ⟨_, undef, _, ι, imm, .inr ⟨?_, rfl⟩, hK, st.2, st.1, trivial⟩
     simp only [execOp, ho, h3, Instr.storeAt, Instr.sureAddr, Sem.run_bind, Sem.run_pure, Result.andThen_ok, hr]
    ·refine ⟨g, _, T', rfl, setRow_heap w g vs _ _ _ h6, by simp; omega, fun m hm => ?_⟩
     have l1 : (cs.take off).length = off := by simp; omega
     have l2 : (vs.toList.take off).length = off := by simp; omega
     have l3 : (ρ y).cells.toList.length = l.length := by simpa using c1
     have ea : (cs.take off ++ l ++ cs.drop (off + i.size)).getD m .junk = if m < off then cs.getD m .junk else if m < off + i.size then l.getD (m - off) .junk else cs.getD m .junk := by
      simp only [List.getD_eq_getElem?_getD, List.getElem?_append, l1, List.length_append, hlen, List.getElem?_take, List.getElem?_drop]
      by_cases a : m < off
      ·have : m < off + i.size := by omega
       simp [a, this]
      ·by_cases b : m < off + i.size
       ·simp [a, b]
       ·have e : off + i.size + (m - (off + i.size)) = m := by omega
        simp [a, b, e]
     have eb : (vs.toList.take off ++ (ρ y).cells.toList ++ vs.toList.drop (off + i.size)).toArray.getD m undef = if m < off then vs.getD m undef else if m < off + i.size then (ρ y).cells.getD (m - off) undef else vs.getD m undef := by
      simp only [Array.getD_eq_getD_getElem?, List.getElem?_toArray, List.getElem?_append, l2, List.length_append, l3, hlen, List.getElem?_take, List.getElem?_drop]
      by_cases a : m < off
      ·have : m < off + i.size := by omega
       simp [a, this]
      ·by_cases b : m < off + i.size
       ·simp [a, b]
       ·have e : off + i.size + (m - (off + i.size)) = m := by omega
        simp [a, b, e]
     have hm' : m < cs.length := by simp at hm; omega
     rw [ea, eb]
     by_cases a : m < off
     ·rw [if_pos a, if_pos a]; exact ⟨(h8 m hm').1.mono (fun _ _ e => e) hmono, (h8 m hm').2⟩
     ·rw [if_neg a, if_neg a]
      by_cases b : m < off + i.size
      ·rw [if_pos b, if_pos b]; exact ⟨(c2 (m - off) (by omega)).1.mono (fun _ _ e => e) hmono, (c2 (m - off) (by omega)).2⟩
      ·rw [if_neg b, if_neg b]; exact ⟨(h8 m hm').1.mono (fun _ _ e => e) hmono, (h8 m hm').2⟩
   ·exact hK.elim
  ·exact hK.elim
 ·rename_i i j sz k off ht hx
  have hT := tt _ _ ht
  rw [hx] at h1
  obtain ⟨g, n, cap, h2, h3⟩ := h1
  split at hK
  ·rename_i e z xs hj
   split at hK
   ·rename_i y' hy
    obtain ⟨rfl, hnj, hk, hlen, hK⟩ := hK
    obtain ⟨imm1, I1, E1⟩ := Inv.freezeL (idsOf (ev y)) I
    have hrep := toD_rep I1 (fun i hi l e z xs hx => freezeL_done h _ i hi l e z xs hx) ((he y).evo I E1) hy
    obtain ⟨c1, c2⟩ := repD_cells hrep
    have hj1 : ups h (freezeL h (idsOf (ev y))) j = some (.row true e z xs) := (freezeL_other h _ j hnj).trans hj
    obtain ⟨v', h4, cells, ho', h6, h7⟩ := I1.blk j _ hj1
    have h2' := E1.ids _ _ h2
    rw [h2'] at h4; cases h4
    rcases ho'.2 with ⟨c, _⟩ | ⟨g', cap', cur, fr, c, hb0, h8, hth, h9, hcm, h10, h11⟩
    ·cases c
    ·cases c
     have hcs : xs.length * z ≤ cur.size := Nat.le_trans (Nat.mul_le_mul_right _ h9) h10
     have hmul : k * z + z ≤ xs.length * z := by
      have := Nat.mul_le_mul_right z (Nat.succ_le_of_lt hk); rw [Nat.succ_mul] at this; exact this
     have hcell : ∀ i j, i < xs.length → j < z → RepC imm1 w ((xs.getD i .np).cells.getD j .np) (cur.getD (i * z + j) undef) := fun i j a b => by
      have := h7 i j a b
      have hm : i * z + j < xs.length * z := by
       have := Nat.mul_le_mul_right z (Nat.succ_le_of_lt a); rw [Nat.succ_mul] at this; omega
      have e2 : cells.getD (i * z + j) undef = cur.getD (i * z + j) undef := by
       rw [← h11]
       have h13 : i * z + j < cur.size := by omega
       simp [List.getD, hm, Array.getD, h13]
      rw [← e2]; exact this
     have hs : (ρ y).cells.size = i.size := by omega
     split at hK
     ·rename_i hc
      obtain ⟨rfl, hsz⟩ := hc
      have hr := run_storeVar_at hT w (off := k * z + 0) h8 hth hs (by omega) (fun m hm => (c2 m (by omega)).one)
      rw [Nat.add_zero, hsz] at hr
      obtain ⟨s1, s2⟩ := store_elem I1 E1 hj1 h2' h6 hk h8 hth h9 hcm h10 hcs hcell (Z := y') (vs := (ρ y).cells) (by omega) (by omega) (fun m hm => c2 m (by omega)) rfl
      refine ⟨_, undef, _, ι, imm1, .inr ⟨?_, rfl⟩, hK, s2, s1, trivial⟩
      simp only [execOp, ho, h3, Instr.storeAt, Instr.sureAddr, Sem.run_bind, Sem.run_pure, Result.andThen_ok, Nat.add_zero, hr]
     ·-- a part of an element
      obtain ⟨hfit, x0, hx0, hK⟩ := hK
      have hr := run_storeVar_at hT w (off := k * z + off) h8 hth hs (by omega) (fun m hm => (c2 m (by omega)).one)
      have hxk : xs.getD k .np = x0 := by simp [List.getD, hx0]
      have hx0z : x0.cells.length = z := h6 x0 (List.mem_of_getElem? hx0)
      have hpc := part_cells cur.toList (ρ y).cells.toList (k * z) off i.size z hfit (by simpa using (by omega : k * z + z ≤ cur.size)) (by simpa using hs)
      have hcl : (ρ y).cells.toList.length = i.size := by simpa using hs
      have hcul : cur.toList.length = cur.size := by simp
      have hvv : ∀ m, m < z → RepC imm1 w ((D.agg (x0.cells.take off ++ y'.cells ++ x0.cells.drop (off + i.size))).cells.getD m .np)
        (((cur.toList.drop (k * z)).take off ++ (ρ y).cells.toList ++ (cur.toList.drop (k * z + off + i.size)).take (z - off - i.size)).toArray.getD m undef) := by
       intro m hm
       have l1 : (x0.cells.take off).length = off := by rw [List.length_take]; omega
       have l2 : ((cur.toList.drop (k * z)).take off).length = off := by rw [List.length_take, List.length_drop]; omega
       have h0 := hcell k m hk hm
       rw [hxk] at h0
       show RepC imm1 w ((x0.cells.take off ++ y'.cells ++ x0.cells.drop (off + i.size)).getD m .np) _
       simp only [Array.getD_eq_getD_getElem?, List.getElem?_toArray, List.getD_eq_getElem?_getD, List.getElem?_append, l1, l2, List.length_append, hlen, hcl, List.getElem?_take, List.getElem?_drop] at h0 ⊢
       by_cases a : m < off
       ·have : m < off + i.size := by omega
        simpa [a, this, Array.getD_eq_getD_getElem?] using h0
       ·by_cases b : m < off + i.size
        ·have := c2 (m - off) (by omega)
         simpa [a, b, Array.getD_eq_getD_getElem?] using this
        ·have e : off + i.size + (m - (off + i.size)) = m := by omega
         have e2 : k * z + off + i.size + (m - (off + i.size)) = k * z + m := by omega
         have b2 : m - (off + i.size) < z - off - i.size := by omega
         simpa [a, b, e, e2, b2, Array.getD_eq_getD_getElem?] using h0
      obtain ⟨s1, s2⟩ := store_elem I1 E1 hj1 h2' h6 hk h8 hth h9 hcm h10 hcs hcell (by show (x0.cells.take off ++ y'.cells ++ x0.cells.drop (off + i.size)).length = z; simp only [List.length_append, List.length_take, List.length_drop]; omega) (by simp only [List.size_toArray, List.length_append, List.length_take, List.length_drop, hcul, hcl]; omega) hvv rfl
      simp only [List.toList_toArray] at s1 s2
      rw [← hpc] at s1 s2
      refine ⟨_, undef, _, ι, imm1, .inr ⟨?_, rfl⟩, hK, s2, s1, trivial⟩
      simp only [execOp, ho, h3, Instr.storeAt, Instr.sureAddr, Sem.run_bind, Sem.run_pure, Result.andThen_ok, hr]
   ·exact hK.elim
  ·exact hK.elim
 ·exact hK.elim
end
end Go.K
end
section
namespace Go.K
open Go
section
variable {ι : Nat → Option Value} {imm : Nat → Prop} {h : Heap} {w : World} {K : Out → Prop}
variable {P : Program} {E : Env} {draw : Bool} {ev : Operand → V} {ρ : Operand → Value} {o : Oper} {id : Nat}
theorem arrayLen_of {T e : TypeId} {n : Nat} (hu : P.underlying T = some (.array n e)) : P.arrayLen T = n ∧ P.elem T = e := by
 simp [Program.arrayLen, Program.elem, hu]
theorem elem_of {T e : TypeId} (hu : P.underlying T = some (.slice e)) : P.elem T = e := by
 simp [Program.elem, hu]
theorem run_part {T : TypeId} {i : TInfo} (hT : TOk P T i) (w : World) {cs : Array Value} {off : Nat} (hfit : off + i.size ≤ cs.size) (h1 : isAggT i.und = false → i.size = 1) :
  (part T cs off).run P w = .ok (if isAggT i.und then .agg ((List.range i.size).map fun j => cs.getD (off + j) undef).toArray else cs.getD off undef) w := by
 unfold part
 rw [Sem.run_bind, hT.run_isAgg]
 cases ha : isAggT i.und with
 | true =>
  have e : cs.extract off (off + i.size) = ((List.range i.size).map fun j => cs.getD (off + j) undef).toArray := by
   apply Array.ext
   ·simp; omega
   ·intro k h1 h2
    have hk : k < i.size := by simpa using h2
    have : off + k < cs.size := by omega
    simp [Array.getD, this]
  simp [hT.run_size, e]
 | false =>
  have := h1 ha
  have hlt : off < cs.size := by omega
  have : cs[off]? = some (cs.getD off undef) := by simp [Array.getD, hlt]
  simp only [Result.andThen_ok, Bool.false_eq_true, if_false, this]
  rfl
variable (I : Inv ι imm h w) (tt : TTok P E.tt) (he : ∀ x, RepV ι imm w (ev x) (ρ x))
include I tt he
theorem op_fieldAddr {T : TypeId} {x : Operand} {f : Nat} (ho : o.op = .fieldAddr T x f) (hK : opR Ω E draw ev h o.op id K) : Done ι imm h w K ((execOp ρ o).run P w) := by
 rw [ho] at hK
 have h1 := he x
 simp only [opR, w_slen, w_sget, w_ssub, w_sset, w_srep, w_scat, BrG_eq, DK_eq, w_ci, w_iand, w_ior, w_ixor, w_ishl, w_ishr, w_wrap, w_tmod, w_lt, w_le, w_eq, w_ne, w_ile, w_ilt, w_tn, w_nadd, w_nsub, w_nlt, w_leb, w_room, w_imax, w_imin, w_bget, w_bext, w_bcat, w_bsz, w_beqs] at hK
 split at hK
 ·rename_i sz by' z fs ht
  have hT := tt _ _ ht
  split at hK
  ·rename_i fd hf
   split at hK
   ·rename_i i hi
    have hj := tt _ _ hi
    obtain ⟨hpos, hK⟩ := hK
    split at hK
    ·rename_i j off hx
     rw [hx] at h1
     obtain ⟨g, h2, h3⟩ := h1
     refine Done.val I ?_ hK ⟨g, h2, rfl⟩
     simp only [execOp, ho, h3, Sem.run_bind, Sem.run_pure, Result.andThen_ok, run_fieldAt hT rfl hf hj hpos]
    ·rename_i j sz k off hx
     rw [hx] at h1
     obtain ⟨g, n, cap, h2, h3⟩ := h1
     refine Done.val I ?_ hK ⟨g, n, cap, h2, rfl⟩
     simp only [execOp, ho, h3, Sem.run_bind, Sem.run_pure, Result.andThen_ok, run_fieldAt hT rfl hf hj hpos, Nat.add_assoc]
    ·rename_i y off hx
     rw [hx] at h1
     obtain ⟨g, b, cs, T', fr, h2, h3, h4, h5⟩ := h1
     refine Done.val I ?_ hK ⟨g, b, cs, T', fr, h2, h3, rfl, h5⟩
     simp only [execOp, ho, h4, Sem.run_bind, Sem.run_pure, Result.andThen_ok, run_fieldAt hT rfl hf hj hpos, Nat.add_assoc]
    ·exact hK.elim
   ·exact hK.elim
  ·exact hK.elim
 ·exact hK.elim
theorem op_field {T : TypeId} {x : Operand} {f : Nat} (ho : o.op = .field T x f) (hK : opR Ω E draw ev h o.op id K) : Done ι imm h w K ((execOp ρ o).run P w) := by
 rw [ho] at hK
 have h1 := he x
 simp only [opR, w_slen, w_sget, w_ssub, w_sset, w_srep, w_scat, BrG_eq, DK_eq, w_ci, w_iand, w_ior, w_ixor, w_ishl, w_ishr, w_wrap, w_tmod, w_lt, w_le, w_eq, w_ne, w_ile, w_ilt, w_tn, w_nadd, w_nsub, w_nlt, w_leb, w_room, w_imax, w_imin, w_bget, w_bext, w_bcat, w_bsz, w_beqs] at hK
 split at hK
 ·rename_i sz by' z fs ht
  have hT := tt _ _ ht
  split at hK
  ·rename_i fd hf
   split at hK
   ·rename_i i hi
    have hj := tt _ _ hi
    have hu := hT.und
    split at hK
    ·rename_i cs hx
     rw [hx] at h1
     obtain ⟨vs, h2, h3, h4⟩ := h1
     obtain ⟨hfit, hone, hK⟩ := hK
     have hp := run_part hj w (cs := vs) (off := fd.offset) (by omega) hone.one
     refine Done.val I ?_ hK (shape_take h3 h4 hfit hone.one)
     simp only [execOp, ho, h2, Instr.field, Sem.run_bind, run_underlying hu, Sem.run_pure, Result.andThen_ok, hf, asAgg, hp]
    ·rename_i cs hx
     rw [hx] at h1
     obtain ⟨vs, h2, h3, h4⟩ := h1
     obtain ⟨hfit, hone, hK⟩ := hK
     have hp := run_part hj w (cs := vs) (off := fd.offset) (by omega) hone.one
     have := load_D (ι := ι) (x := .agg cs) (b := 0) (off := fd.offset) (n := i.size) (agg := isAggT i.und) (vs := vs) (fun j hj => by rw [Nat.zero_add]; exact h4 j hj) hfit hone.one
     rw [Nat.zero_add] at this
     refine Done.val I ?_ hK this
     simp only [execOp, ho, h2, Instr.field, Sem.run_bind, run_underlying hu, Sem.run_pure, Result.andThen_ok, hf, asAgg, hp]
    ·exact hK.elim
   ·exact hK.elim
  ·exact hK.elim
 ·exact hK.elim
theorem op_index {T : TypeId} {x y : Operand} (ho : o.op = .index T x y) (hK : opR Ω E draw ev h o.op id K) : Done ι imm h w K ((execOp ρ o).run P w) := by
 rw [ho] at hK
 have h1 := he x
 have h1y := he y
 simp only [opR, w_slen, w_sget, w_ssub, w_sset, w_srep, w_scat, BrG_eq, DK_eq, w_ci, w_iand, w_ior, w_ixor, w_ishl, w_ishr, w_wrap, w_tmod, w_lt, w_le, w_eq, w_ne, w_ile, w_ilt, w_tn, w_nadd, w_nsub, w_nlt, w_leb, w_room, w_imax, w_imin, w_bget, w_bext, w_bcat, w_bsz, w_beqs] at hK
 split at hK
 ·rename_i sz by' z n e ht
  have hT := tt _ _ ht
  have hu := hT.und
  split at hK
  ·rename_i i hi
   have hj := tt _ _ hi
   split at hK
   ·rename_i cs kk k hx hy
    rw [hx] at h1
    rw [hy] at h1y
    obtain ⟨vs, h2, h3, h4⟩ := h1
    have h5 := repI h1y
    obtain ⟨k0, k1, hfit, hone, hK⟩ := hK
    have k1 : k < (n : Int) := by omega
    have hp := run_part hj w (cs := vs) (off := k.toNat * i.size) (by omega) hone.one
    refine Done.val I ?_ hK (shape_take h3 h4 hfit hone.one)
    simp only [execOp, ho, h2, h5, Instr.index, asIntOf, Sem.run_bind, run_underlying hu, Sem.run_pure, Result.andThen_ok, k0, k1, and_self, if_true, hj.run_size, hp]
   ·rename_i cs kk k hx hy
    rw [hx] at h1
    rw [hy] at h1y
    obtain ⟨vs, h2, h3, h4⟩ := h1
    have h5 := repI h1y
    obtain ⟨k0, k1, hfit, hone, hK⟩ := hK
    have k1 : k < (n : Int) := by omega
    have hp := run_part hj w (cs := vs) (off := k.toNat * i.size) (by omega) hone.one
    have := load_D (ι := ι) (x := .agg cs) (b := 0) (off := k.toNat * i.size) (n := i.size) (agg := isAggT i.und) (vs := vs) (fun j hj => by rw [Nat.zero_add]; exact h4 j hj) hfit hone.one
    rw [Nat.zero_add] at this
    refine Done.val I ?_ hK this
    simp only [execOp, ho, h2, h5, Instr.index, asIntOf, Sem.run_bind, run_underlying hu, Sem.run_pure, Result.andThen_ok, k0, k1, and_self, if_true, hj.run_size, hp]
   ·exact hK.elim
  ·exact hK.elim
 ·rename_i sz by' z ht
  have hT := tt _ _ ht
  have hu := hT.und
  split at hK
  ·rename_i b kk k hx hy
   rw [hx] at h1
   rw [hy] at h1y
   have h2 := repS h1
   have h5 := repI h1y
   obtain ⟨k0, c', hc', hK⟩ := hK
   obtain ⟨c, hc, rfl⟩ := Option.map_eq_some_iff.1 hc'
   refine Done.val I ?_ hK (.i _ _)
   simp only [execOp, ho, h2, h5, Instr.index, asIntOf, Sem.run_bind, run_underlying hu, Sem.run_pure, Result.andThen_ok, k0, if_true, hc]
  ·exact hK.elim
 ·exact hK.elim
theorem op_indexAddr {T : TypeId} {x y : Operand} (ho : o.op = .indexAddr T x y) (hK : opR Ω E draw ev h o.op id K) : Done ι imm h w K ((execOp ρ o).run P w) := by
 rw [ho] at hK
 have h1 := he x
 have h1y := he y
 simp only [opR, w_slen, w_sget, w_ssub, w_sset, w_srep, w_scat, BrG_eq, DK_eq, w_ci, w_iand, w_ior, w_ixor, w_ishl, w_ishr, w_wrap, w_tmod, w_lt, w_le, w_eq, w_ne, w_ile, w_ilt, w_tn, w_nadd, w_nsub, w_nlt, w_leb, w_room, w_imax, w_imin, w_bget, w_bext, w_bcat, w_bsz, w_beqs] at hK
 split at hK
 ·rename_i sz by' z n e ht
  have hT := tt _ _ ht
  have hu := hT.und
  obtain ⟨ea, ee⟩ := arrayLen_of hu
  have hu' : P.underlying T = some (.array (P.arrayLen T) (P.elem T)) := by rw [ea, ee]; exact hu
  split at hK
  ·rename_i i hi
   have hj := tt _ _ hi
   have run : ∀ (g off : Nat) (kk : IntKind) (k : Int), 0 ≤ k → k < n → (Instr.indexAt T (.pointer (some ⟨g, off, none⟩)) (.int kk k)).run P w = .ok (.pointer (some ⟨g, off + k.toNat * i.size, none⟩)) w := fun g off kk k k0 k1 => by
    rw [run_indexAt_array (h := hu'), if_pos ⟨k0, by rw [ea]; exact k1⟩, ee, hj.run_size]
    simp only [Result.andThen_ok, addr_add]
   split at hK
   ·rename_i j off kk k hx hy
    rw [hx] at h1
    rw [hy] at h1y
    obtain ⟨g, h2, h3⟩ := h1
    have h5 := repI h1y
    obtain ⟨k0, k1, hK⟩ := hK
    have k1 : k < (n : Int) := by omega
    refine Done.val I ?_ hK ⟨g, h2, rfl⟩
    simp only [execOp, ho, h3, h5, Sem.run_bind, Sem.run_pure, Result.andThen_ok, run g off kk k k0 k1]
   ·rename_i j sz l off kk k hx hy
    rw [hx] at h1
    rw [hy] at h1y
    obtain ⟨g, m, cap, h2, h3⟩ := h1
    have h5 := repI h1y
    obtain ⟨k0, k1, hK⟩ := hK
    have k1 : k < (n : Int) := by omega
    refine Done.val I ?_ hK ⟨g, m, cap, h2, rfl⟩
    simp only [execOp, ho, h3, h5, Sem.run_bind, Sem.run_pure, Result.andThen_ok, run _ _ kk k k0 k1, Nat.add_assoc]
   ·rename_i y' off kk k hx hy
    rw [hx] at h1
    rw [hy] at h1y
    obtain ⟨g, b, cs, T', fr, h2, h3, h4, h5'⟩ := h1
    have h5 := repI h1y
    obtain ⟨k0, k1, hK⟩ := hK
    have k1 : k < (n : Int) := by omega
    refine Done.val I ?_ hK ⟨g, b, cs, T', fr, h2, h3, rfl, h5'⟩
    simp only [execOp, ho, h4, h5, Sem.run_bind, Sem.run_pure, Result.andThen_ok, run _ _ kk k k0 k1, Nat.add_assoc]
   ·exact hK.elim
  ·exact hK.elim
 ·rename_i sz by' z e ht
  have hT := tt _ _ ht
  have hu := hT.und
  have ee := elem_of hu
  have hu' : P.underlying T = some (.slice (P.elem T)) := by rw [ee]; exact hu
  split at hK
  ·rename_i i hi
   have hj := tt _ _ hi
   have run : ∀ (g off len cap : Nat) (kk : IntKind) (k : Int), 0 ≤ k → k < len → (Instr.indexAt T (.slice (some ⟨g, off, none⟩) len cap) (.int kk k)).run P w = .ok (.pointer (some ⟨g, off + k.toNat * i.size, none⟩)) w := fun g off len cap kk k k0 k1 => by
    rw [run_indexAt_slice (h := hu'), if_pos ⟨k0, k1⟩, ee, hj.run_size]
    simp only [Result.andThen_ok, addr_add]
   split at hK
   ·rename_i xs kk k hx hy
    rw [hx] at h1
    rw [hy] at h1y
    have h5 := repI h1y
    obtain ⟨k0, y', hy', hsz, hK⟩ := hK
    have hk : k.toNat < xs.length := (List.getElem?_eq_some_iff.1 hy').1
    have hmem : y' ∈ xs := List.mem_of_getElem? hy'
    have ey : xs.getD k.toNat .np = y' := by simp [List.getD, hy']
    obtain ⟨a, c, h2, h3⟩ := repSl h1
    cases h3 with
    | sl0 => simp at hk
    | sl _ g off cap sz' cs T' fr hne him hg hcap hs hb hr =>
     have hsz' : sz' = i.size := (hs y' hmem).symm.trans hsz
     subst hsz'
     refine Done.val I ?_ hK ⟨g, off + k.toNat * i.size, cs, T', fr, him, hg, rfl, fun j hj' => ?_⟩
     ·simp only [execOp, ho, h2, h5, Sem.run_bind, Sem.run_pure, Result.andThen_ok, run g off xs.length c kk k k0 (by omega), Nat.add_zero]
     ·rw [hsz] at hj'
      refine ⟨by have := hb k.toNat j hk hj'; omega, ?_⟩
      have := hr k.toNat j hk hj'
      rw [ey] at this
      rw [Nat.add_assoc]
      exact this
   ·rename_i j sz kk k hx hy
    rw [hx] at h1
    rw [hy] at h1y
    have h5 := repI h1y
    split at hK
    ·rename_i l e' z' xs hj'
     obtain ⟨rfl, rfl, k0, k1, hK⟩ := hK
     obtain ⟨v', h4, h6⟩ := I.blk j _ hj'
     obtain ⟨h7, h8⟩ := h1
     rw [h7] at h4; cases h4
     have hform : ∃ g cap, ρ x = .slice (some ⟨g, 0, none⟩) xs.length cap := by
      rcases h8 with h8 | ⟨g, n, cap, h8⟩
      ·exfalso
       rw [h8] at h6
       cases l with
       | true =>
        obtain ⟨cells, ho', _⟩ := h6
        rcases ho'.2 with ⟨_, hn⟩ | ⟨g, cap, cur, fr, c, _⟩
        ·omega
        ·cases c
       | false => have := h6.1.len; omega
      ·rw [h8] at h6
       have hn : n = xs.length := by
        cases l with
        | true =>
         obtain ⟨cells, ho', _⟩ := h6
         rcases ho'.2 with ⟨c, _⟩ | ⟨g, cap, cur, fr, c, _⟩
         ·cases c
         ·cases c; rfl
        | false => exact h6.1.len
       subst hn
       exact ⟨g, cap, h8⟩
     obtain ⟨g, cap, h9⟩ := hform
     refine Done.val I ?_ hK ⟨g, xs.length, cap, h9 ▸ h7, rfl⟩
     simp only [execOp, ho, h9, h5, Sem.run_bind, Sem.run_pure, Result.andThen_ok, run g 0 _ cap kk k k0 k1, Nat.add_zero, Nat.zero_add]
    ·exact hK.elim
   ·rename_i j sz off len kk k hx hy
    rw [hx] at h1
    rw [hy] at h1y
    have h5 := repI h1y
    obtain ⟨rfl, k0, k1, hK⟩ := hK
    rcases h1 with ⟨g, n, cap, c, h2, h3, h4⟩ | ⟨_, h3, _⟩
    ·refine Done.val I ?_ hK ⟨g, n, cap, h2, rfl⟩
     simp only [execOp, ho, h3, h5, Sem.run_bind, Sem.run_pure, Result.andThen_ok, run _ _ _ c kk k k0 k1, Nat.add_zero, Nat.add_mul]
    ·omega
   ·exact hK.elim
  ·exact hK.elim
 ·exact hK.elim
end
end Go.K
end
