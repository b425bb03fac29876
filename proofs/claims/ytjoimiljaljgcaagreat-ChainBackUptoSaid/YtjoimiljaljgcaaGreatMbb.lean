/-
  Parts of the proof, joined by a program of this work: KOps2, KOps3, KOps4, KOps5, KOps6.
-/
import Derived.Test.YtjoimiljaljgcaaGreatMba
import Derived.Laws.Cover3
set_option linter.unusedSectionVars false
set_option linter.unusedSimpArgs false
set_option linter.unusedVariables false
section
namespace Go.K
open Go
theorem row_set {imm : Nat → Prop} {w : World} {xs : List D} {sz k : Nat} {cur : Array Value} {y : D} {vs : Array Value} (hu : ∀ x, x ∈ xs → x.cells.length = sz) (hk : k < xs.length) (hy : y.cells.length = sz)
  (hfit : xs.length * sz ≤ cur.size) (hvs : vs.size = sz) (hc : ∀ i j, i < xs.length → j < sz → RepC imm w ((xs.getD i .np).cells.getD j .np) (cur.getD (i * sz + j) undef))
  (hv : ∀ j, j < sz → RepC imm w (y.cells.getD j .np) (vs.getD j undef)) :
  ∀ i j, i < (xs.set k y).length → j < sz → RepC imm w (((xs.set k y).getD i .np).cells.getD j .np) ((cur.toList.take (k * sz) ++ vs.toList ++ cur.toList.drop (k * sz + sz)).toArray.getD (i * sz + j) undef) := by
 intro i j hi hj
 have hi' : i < xs.length := by simpa using hi
 have hmul : ∀ a b, a < b → b ≤ xs.length → a * sz + sz ≤ b * sz := fun a b h _ => by
  have := Nat.mul_le_mul_right sz (Nat.succ_le_of_lt h); rw [Nat.succ_mul] at this; exact this
 have hkk := hmul k xs.length hk (Nat.le_refl _)
 have hii := hmul i xs.length hi' (Nat.le_refl _)
 have hlen : (cur.toList.take (k * sz)).length = k * sz := by simp; omega
 have hlen2 : vs.toList.length = sz := by simp [hvs]
 have hget : ∀ m, (cur.toList.take (k * sz) ++ vs.toList ++ cur.toList.drop (k * sz + sz)).toArray.getD m undef =
   if m < k * sz then cur.getD m undef else if m < k * sz + sz then vs.getD (m - k * sz) undef else cur.getD m undef := by
  intro m
  simp only [Array.getD_eq_getD_getElem?, List.getElem?_toArray, List.getElem?_append, hlen, List.length_append, hlen2, List.getElem?_take, List.getElem?_drop]
  by_cases h1 : m < k * sz
  ·have h2 : m < k * sz + sz := by omega
   simp [h1, h2]
  ·by_cases h2 : m < k * sz + sz
   ·simp [h1, h2]
   ·have e : k * sz + sz + (m - (k * sz + sz)) = m := by omega
    simp [h1, h2, e]
 rw [hget]
 by_cases hik : i = k
 ·subst hik
  have e : (xs.set i y).getD i .np = y := by simp [List.getD, hi']
  rw [e, if_neg (by omega), if_pos (by omega), show i * sz + j - i * sz = j by omega]
  exact hv j hj
 ·have e : (xs.set k y).getD i .np = xs.getD i .np := by simp [List.getD, List.getElem?_set_ne (Ne.symm hik)]
  rw [e]
  have : ¬ (k * sz ≤ i * sz + j ∧ i * sz + j < k * sz + sz) := by
   intro ⟨a, b⟩
   rcases Nat.lt_or_ge i k with h | h
   ·have := hmul i k h (by omega); omega
   ·have := hmul k i (by omega) (by omega); omega
  by_cases h1 : i * sz + j < k * sz
  ·rw [if_pos h1]; exact hc i j hi' hj
  ·rw [if_neg h1, if_neg (by omega)]; exact hc i j hi' hj
theorem store_elem {ι : Nat → Option Value} {imm imm1 : Nat → Prop} {h h1 : Heap} {w : World} (I1 : Inv ι imm1 h1 w) (E1 : Evo ι imm h w ι imm1 h1 w) {j k z g cap : Nat} {e : TypeId} {xs : List D} {cur vs new : Array Value} {Z : D}
  (hj1 : h1 j = some (.row true e z xs)) (h2' : ι j = some (.slice (some ⟨g, 0, none⟩) xs.length cap)) (h6 : ∀ x, x ∈ xs → x.cells.length = z) (hk : k < xs.length)
  (h8 : w.heap[g]? = some (.cells cur e (0, 0))) (h9 : xs.length ≤ cap) (hcm : cap ≤ maxLen) (h10 : cap * z ≤ cur.size) (hcs : xs.length * z ≤ cur.size)
  (hcell : ∀ i j, i < xs.length → j < z → RepC imm1 w ((xs.getD i .np).cells.getD j .np) (cur.getD (i * z + j) undef))
  (hZ : Z.cells.length = z) (hvs : vs.size = z) (hv : ∀ m, m < z → RepC imm1 w (Z.cells.getD m .np) (vs.getD m undef))
  (hnew : new = (cur.toList.take (k * z) ++ vs.toList ++ cur.toList.drop (k * z + z)).toArray) :
  Inv ι imm1 (upd h1 j (some (.row true e z (xs.set k Z)))) (w.setRow g new) ∧ Evo ι imm h w ι imm1 (upd h1 j (some (.row true e z (xs.set k Z)))) (w.setRow g new) := by
 have hmul : k * z + z ≤ xs.length * z := by
  have := Nat.mul_le_mul_right z (Nat.succ_le_of_lt hk); rw [Nat.succ_mul] at this; exact this
 subst hnew
 have hmono : ∀ g', imm1 g' → imm1 g' ∧ (w.setRow g (cur.toList.take (k * z) ++ vs.toList ++ cur.toList.drop (k * z + z)).toArray).heap[g']? = w.heap[g']? := fun g' hg' =>
  ⟨hg', setRow_other w g g' _ (fun e' => by subst e'; exact I1.own g' ⟨j, _, _, hj1, rfl, h2', rfl⟩ hg')⟩
 have st := I1.wrote hj1 rfl h2' (B := .row true e z (xs.set k Z)) (w' := w.setRow g (cur.toList.take (k * z) ++ vs.toList ++ cur.toList.drop (k * z + z)).toArray) (by simp)
  (fun g' hg' => setRow_other w g g' _ (fun e' => by subst e'; exact hg' rfl)) rfl rfl rfl ?_
 ·exact ⟨st.1, E1.trans st.2⟩
 ·have hl : (xs.set k Z).length = xs.length := by simp
  have hnew := row_set (imm := imm1) (w := w) h6 hk hZ hcs (vs := vs) hvs hcell hv
  refine ⟨((cur.toList.take (k * z) ++ vs.toList ++ cur.toList.drop (k * z + z)).take (xs.length * z)), ⟨?_, .inr ⟨g, cap, _, ?_, Nat.zero_le _, setRow_heap w g cur _ e _ h8, ?_, hcm, ?_, ?_⟩⟩, ?_, ?_⟩
  ·simp; omega
  ·rw [hl]
  ·rw [hl]; exact h9
  ·simp; omega
  ·simp
  ·intro x hx
   rcases List.mem_or_eq_of_mem_set hx with hx | hx
   ·exact h6 x hx
   ·subst hx; omega
  ·intro a b ha hb
   have := (hnew a b ha hb).mono hmono
   have hm : a * z + b < xs.length * z := by
    rw [hl] at ha
    have := Nat.mul_le_mul_right z (Nat.succ_le_of_lt ha); rw [Nat.succ_mul] at this; omega
   have e3 : ((cur.toList.take (k * z) ++ vs.toList ++ cur.toList.drop (k * z + z)).take (xs.length * z)).getD (a * z + b) undef = (cur.toList.take (k * z) ++ vs.toList ++ cur.toList.drop (k * z + z)).toArray.getD (a * z + b) undef := by
    rw [List.getD_eq_getElem?_getD, List.getElem?_take, if_pos hm, Array.getD_eq_getD_getElem?, List.getElem?_toArray]
   rw [e3]
   exact this
theorem part_cells (cur c : List Value) (a off s z : Nat) (h1 : off + s ≤ z) (h2 : a + z ≤ cur.length) (h3 : c.length = s) :
  cur.take (a + off) ++ c ++ cur.drop (a + off + s) = cur.take a ++ ((cur.drop a).take off ++ c ++ (cur.drop (a + off + s)).take (z - off - s)) ++ cur.drop (a + z) := by
 have e1 : cur.take (a + off) = cur.take a ++ (cur.drop a).take off := List.take_add ..
 have e2 : cur.drop (a + z) = (cur.drop (a + off + s)).drop (z - off - s) := by rw [List.drop_drop]; congr 1; omega
 rw [e1, e2]
 simp only [List.append_assoc, List.take_append_drop]
section
variable {ι : Nat → Option Value} {imm : Nat → Prop} {h : Heap} {w : World} {K : Out → Prop}
variable {P : Program} {E : Env} {draw : Bool} {ev : Operand → V} {ρ : Operand → Value} {o : Oper} {id : Nat}
theorem repD_cells {x : D} {v : Value} (hr : RepD imm w x v) : v.cells.size = x.cells.length ∧ ∀ j, j < x.cells.length → RepC imm w (x.cells.getD j .np) (v.cells.getD j undef) := by
 have h0 : RepV (fun _ => none) imm w (.d x) v := hr
 obtain ⟨h1, h2⟩ := cells_rep (l := x.cells.map V.d) h0 rfl
 refine ⟨by simpa using h1, fun j hj => ?_⟩
 have := (h2 j (by simpa using hj)).1
 have e : (x.cells.map V.d).getD j .junk = .d (x.cells.getD j .np) := by simp [List.getD, hj]
 rw [e] at this
 exact this
variable (I : Inv ι imm h w) (tt : TTok P E.tt) (he : ∀ x, RepV ι imm w (ev x) (ρ x))
include I tt he
theorem op_store {T : TypeId} {x y : Operand} (ho : o.op = .store T x y) (hK : opR Ω E draw ev h o.op id K) : Done ι imm h w K ((execOp ρ o).run P w) := by
 rw [ho] at hK
 have h1 := he x
 simp only [opR, w_slen, w_sget, w_ssub, w_sset, w_srep, w_scat, BrG_eq, DK_eq, w_ci, w_iand, w_ior, w_ixor, w_ishl, w_ishr, w_wrap, w_tmod, w_lt, w_le, w_eq, w_ne, w_ile, w_ilt, w_tn, w_nadd, w_nsub, w_nlt, w_leb, w_room, w_imax, w_imin, w_bget, w_bext, w_bcat, w_bsz, w_beqs] at hK
 split at hK
 ·rename_i i j off ht hx
  have hT := tt _ _ ht
  rw [hx] at h1
  obtain ⟨g, h2, h3⟩ := h1
  split at hK
  ·rename_i cs hj
   split at hK
   ·rename_i l hl
    obtain ⟨hlen, hfit, hK⟩ := hK
    obtain ⟨v', h4, g', vs, T', h5, h6, h7, h8⟩ := I.blk j _ hj
    have hv' := h4
    rw [h2] at h4; cases h4; cases h5
    obtain ⟨c1, c2⟩ := cells_rep (he y) hl
    have hs : (ρ y).cells.size = i.size := by omega
    have hr := run_storeVar_at hT w (off := off) h6 hs (by omega) (fun m hm => (c2 m (by omega)).2)
    have hmono : ∀ g', imm g' → imm g' ∧ (w.setRow g (vs.toList.take off ++ (ρ y).cells.toList ++ vs.toList.drop (off + i.size)).toArray).heap[g']? = w.heap[g']? := fun g' hg' =>
     ⟨hg', setRow_other w g g' _ (fun e => by subst e; exact I.own g' ⟨j, _, _, hj, rfl, h2, rfl⟩ hg')⟩
    have st := I.wrote hj rfl h2 (B := .var (cs.take off ++ l ++ cs.drop (off + i.size))) (w' := w.setRow g (vs.toList.take off ++ (ρ y).cells.toList ++ vs.toList.drop (off + i.size)).toArray) (by simp)
     (fun g' hg' => setRow_other w g g' _ (fun e => by subst e; exact hg' rfl)) rfl rfl rfl ?_
    ·refine ⟨_, undef, _, ι, imm, .inr ⟨?_, rfl⟩, hK, st.2, st.1, trivial⟩
     simp only [execOp, ho, h3, Instr.storeAt, Instr.sureAddr, Sem.run_bind, Sem.run_pure, Result.andThen_ok, hr]
    ·refine ⟨g, _, T', rfl, setRow_heap w g vs _ T' _ h6, by simp; omega, fun m hm => ?_⟩
     have l1 : (cs.take off).length = off := by simp; omega
     have l2 : (vs.toList.take off).length = off := by simp; omega
     have l3 : (ρ y).cells.toList.length = l.length := by simpa using c1
     have ea : (cs.take off ++ l ++ cs.drop (off + i.size)).getD m .junk = if m < off then cs.getD m .junk else if m < off + i.size then l.getD (m - off) .junk else cs.getD m .junk := by
      simp only [List.getD_eq_getElem?_getD, List.getElem?_append, l1, List.length_append, hlen, List.getElem?_take, List.getElem?_drop]
      by_cases a : m < off
      ·have : m < off + i.size := by omega
       simp [a, this]
      ·by_cases b : m < off + i.size
       ·simp [a, b]
       ·have e : off + i.size + (m - (off + i.size)) = m := by omega
        simp [a, b, e]
     have eb : (vs.toList.take off ++ (ρ y).cells.toList ++ vs.toList.drop (off + i.size)).toArray.getD m undef = if m < off then vs.getD m undef else if m < off + i.size then (ρ y).cells.getD (m - off) undef else vs.getD m undef := by
      simp only [Array.getD_eq_getD_getElem?, List.getElem?_toArray, List.getElem?_append, l2, List.length_append, l3, hlen, List.getElem?_take, List.getElem?_drop]
      by_cases a : m < off
      ·have : m < off + i.size := by omega
       simp [a, this]
      ·by_cases b : m < off + i.size
       ·simp [a, b]
       ·have e : off + i.size + (m - (off + i.size)) = m := by omega
        simp [a, b, e]
     have hm' : m < cs.length := by simp at hm; omega
     rw [ea, eb]
     by_cases a : m < off
     ·rw [if_pos a, if_pos a]; exact ⟨(h8 m hm').1.mono (fun _ _ e => e) hmono, (h8 m hm').2⟩
     ·rw [if_neg a, if_neg a]
      by_cases b : m < off + i.size
      ·rw [if_pos b, if_pos b]; exact ⟨(c2 (m - off) (by omega)).1.mono (fun _ _ e => e) hmono, (c2 (m - off) (by omega)).2⟩
      ·rw [if_neg b, if_neg b]; exact ⟨(h8 m hm').1.mono (fun _ _ e => e) hmono, (h8 m hm').2⟩
   ·exact hK.elim
  ·exact hK.elim
 ·rename_i i j sz k off ht hx
  have hT := tt _ _ ht
  rw [hx] at h1
  obtain ⟨g, n, cap, h2, h3⟩ := h1
  split at hK
  ·rename_i e z xs hj
   split at hK
   ·rename_i y' hy
    obtain ⟨rfl, hnj, hk, hlen, hK⟩ := hK
    obtain ⟨imm1, I1, E1⟩ := Inv.freezeL (idsOf (ev y)) I
    have hrep := toD_rep I1 (fun i hi l e z xs hx => freezeL_done h _ i hi l e z xs hx) ((he y).evo I E1) hy
    obtain ⟨c1, c2⟩ := repD_cells hrep
    have hj1 : ups h (freezeL h (idsOf (ev y))) j = some (.row true e z xs) := (freezeL_other h _ j hnj).trans hj
    obtain ⟨v', h4, cells, ho', h6, h7⟩ := I1.blk j _ hj1
    have h2' := E1.ids _ _ h2
    rw [h2'] at h4; cases h4
    rcases ho'.2 with ⟨c, _⟩ | ⟨g', cap', cur, c, hb0, h8, h9, hcm, h10, h11⟩
    ·cases c
    ·cases c
     have hcs : xs.length * z ≤ cur.size := Nat.le_trans (Nat.mul_le_mul_right _ h9) h10
     have hmul : k * z + z ≤ xs.length * z := by
      have := Nat.mul_le_mul_right z (Nat.succ_le_of_lt hk); rw [Nat.succ_mul] at this; exact this
     have hcell : ∀ i j, i < xs.length → j < z → RepC imm1 w ((xs.getD i .np).cells.getD j .np) (cur.getD (i * z + j) undef) := fun i j a b => by
      have := h7 i j a b
      have hm : i * z + j < xs.length * z := by
       have := Nat.mul_le_mul_right z (Nat.succ_le_of_lt a); rw [Nat.succ_mul] at this; omega
      have e2 : cells.getD (i * z + j) undef = cur.getD (i * z + j) undef := by
       rw [← h11]
       have h13 : i * z + j < cur.size := by omega
       simp [List.getD, hm, Array.getD, h13]
      rw [← e2]; exact this
     have hs : (ρ y).cells.size = i.size := by omega
     split at hK
     ·rename_i hc
      obtain ⟨rfl, hsz⟩ := hc
      have hr := run_storeVar_at hT w (off := k * z + 0) h8 hs (by omega) (fun m hm => (c2 m (by omega)).one)
      rw [Nat.add_zero, hsz] at hr
      obtain ⟨s1, s2⟩ := store_elem I1 E1 hj1 h2' h6 hk h8 h9 hcm h10 hcs hcell (Z := y') (vs := (ρ y).cells) (by omega) (by omega) (fun m hm => c2 m (by omega)) rfl
      refine ⟨_, undef, _, ι, imm1, .inr ⟨?_, rfl⟩, hK, s2, s1, trivial⟩
      simp only [execOp, ho, h3, Instr.storeAt, Instr.sureAddr, Sem.run_bind, Sem.run_pure, Result.andThen_ok, Nat.add_zero, hr]
     ·-- a part of an element
      obtain ⟨hfit, x0, hx0, hK⟩ := hK
      have hr := run_storeVar_at hT w (off := k * z + off) h8 hs (by omega) (fun m hm => (c2 m (by omega)).one)
      have hxk : xs.getD k .np = x0 := by simp [List.getD, hx0]
      have hx0z : x0.cells.length = z := h6 x0 (List.mem_of_getElem? hx0)
      have hpc := part_cells cur.toList (ρ y).cells.toList (k * z) off i.size z hfit (by simpa using (by omega : k * z + z ≤ cur.size)) (by simpa using hs)
      have hcl : (ρ y).cells.toList.length = i.size := by simpa using hs
      have hcul : cur.toList.length = cur.size := by simp
      have hvv : ∀ m, m < z → RepC imm1 w ((D.agg (x0.cells.take off ++ y'.cells ++ x0.cells.drop (off + i.size))).cells.getD m .np)
        (((cur.toList.drop (k * z)).take off ++ (ρ y).cells.toList ++ (cur.toList.drop (k * z + off + i.size)).take (z - off - i.size)).toArray.getD m undef) := by
       intro m hm
       have l1 : (x0.cells.take off).length = off := by rw [List.length_take]; omega
       have l2 : ((cur.toList.drop (k * z)).take off).length = off := by rw [List.length_take, List.length_drop]; omega
       have h0 := hcell k m hk hm
       rw [hxk] at h0
       show RepC imm1 w ((x0.cells.take off ++ y'.cells ++ x0.cells.drop (off + i.size)).getD m .np) _
       simp only [Array.getD_eq_getD_getElem?, List.getElem?_toArray, List.getD_eq_getElem?_getD, List.getElem?_append, l1, l2, List.length_append, hlen, hcl, List.getElem?_take, List.getElem?_drop] at h0 ⊢
       by_cases a : m < off
       ·have : m < off + i.size := by omega
        simpa [a, this, Array.getD_eq_getD_getElem?] using h0
       ·by_cases b : m < off + i.size
        ·have := c2 (m - off) (by omega)
         simpa [a, b, Array.getD_eq_getD_getElem?] using this
        ·have e : off + i.size + (m - (off + i.size)) = m := by omega
         have e2 : k * z + off + i.size + (m - (off + i.size)) = k * z + m := by omega
         have b2 : m - (off + i.size) < z - off - i.size := by omega
         simpa [a, b, e, e2, b2, Array.getD_eq_getD_getElem?] using h0
      obtain ⟨s1, s2⟩ := store_elem I1 E1 hj1 h2' h6 hk h8 h9 hcm h10 hcs hcell (by show (x0.cells.take off ++ y'.cells ++ x0.cells.drop (off + i.size)).length = z; simp only [List.length_append, List.length_take, List.length_drop]; omega) (by simp only [List.size_toArray, List.length_append, List.length_take, List.length_drop, hcul, hcl]; omega) hvv rfl
      simp only [List.toList_toArray] at s1 s2
      rw [← hpc] at s1 s2
      refine ⟨_, undef, _, ι, imm1, .inr ⟨?_, rfl⟩, hK, s2, s1, trivial⟩
      simp only [execOp, ho, h3, Instr.storeAt, Instr.sureAddr, Sem.run_bind, Sem.run_pure, Result.andThen_ok, hr]
   ·exact hK.elim
  ·exact hK.elim
 ·exact hK.elim
end
end Go.K
end
section
namespace Go.K
open Go
section
variable {ι : Nat → Option Value} {imm : Nat → Prop} {h : Heap} {w : World} {K : Out → Prop}
variable {P : Program} {E : Env} {draw : Bool} {ev : Operand → V} {ρ : Operand → Value} {o : Oper} {id : Nat}
theorem arrayLen_of {T e : TypeId} {n : Nat} (hu : P.underlying T = some (.array n e)) : P.arrayLen T = n ∧ P.elem T = e := by
 simp [Program.arrayLen, Program.elem, hu]
theorem elem_of {T e : TypeId} (hu : P.underlying T = some (.slice e)) : P.elem T = e := by
 simp [Program.elem, hu]
theorem run_part {T : TypeId} {i : TInfo} (hT : TOk P T i) (w : World) {cs : Array Value} {off : Nat} (hfit : off + i.size ≤ cs.size) (h1 : isAggT i.und = false → i.size = 1) :
  (part T cs off).run P w = .ok (if isAggT i.und then .agg ((List.range i.size).map fun j => cs.getD (off + j) undef).toArray else cs.getD off undef) w := by
 unfold part
 rw [Sem.run_bind, hT.run_isAgg]
 cases ha : isAggT i.und with
 | true =>
  have e : cs.extract off (off + i.size) = ((List.range i.size).map fun j => cs.getD (off + j) undef).toArray := by
   apply Array.ext
   ·simp; omega
   ·intro k h1 h2
    have hk : k < i.size := by simpa using h2
    have : off + k < cs.size := by omega
    simp [Array.getD, this]
  simp [hT.run_size, e]
 | false =>
  have := h1 ha
  have hlt : off < cs.size := by omega
  have : cs[off]? = some (cs.getD off undef) := by simp [Array.getD, hlt]
  simp only [Result.andThen_ok, Bool.false_eq_true, if_false, this]
  rfl
variable (I : Inv ι imm h w) (tt : TTok P E.tt) (he : ∀ x, RepV ι imm w (ev x) (ρ x))
include I tt he
theorem op_fieldAddr {T : TypeId} {x : Operand} {f : Nat} (ho : o.op = .fieldAddr T x f) (hK : opR Ω E draw ev h o.op id K) : Done ι imm h w K ((execOp ρ o).run P w) := by
 rw [ho] at hK
 have h1 := he x
 simp only [opR, w_slen, w_sget, w_ssub, w_sset, w_srep, w_scat, BrG_eq, DK_eq, w_ci, w_iand, w_ior, w_ixor, w_ishl, w_ishr, w_wrap, w_tmod, w_lt, w_le, w_eq, w_ne, w_ile, w_ilt, w_tn, w_nadd, w_nsub, w_nlt, w_leb, w_room, w_imax, w_imin, w_bget, w_bext, w_bcat, w_bsz, w_beqs] at hK
 split at hK
 ·rename_i sz by' z fs ht
  have hT := tt _ _ ht
  split at hK
  ·rename_i fd hf
   split at hK
   ·rename_i i hi
    have hj := tt _ _ hi
    obtain ⟨hpos, hK⟩ := hK
    split at hK
    ·rename_i j off hx
     rw [hx] at h1
     obtain ⟨g, h2, h3⟩ := h1
     refine Done.val I ?_ hK ⟨g, h2, rfl⟩
     simp only [execOp, ho, h3, Sem.run_bind, Sem.run_pure, Result.andThen_ok, run_fieldAt hT rfl hf hj hpos]
    ·rename_i j sz k off hx
     rw [hx] at h1
     obtain ⟨g, n, cap, h2, h3⟩ := h1
     refine Done.val I ?_ hK ⟨g, n, cap, h2, rfl⟩
     simp only [execOp, ho, h3, Sem.run_bind, Sem.run_pure, Result.andThen_ok, run_fieldAt hT rfl hf hj hpos, Nat.add_assoc]
    ·rename_i y off hx
     rw [hx] at h1
     obtain ⟨g, b, cs, T', fr, h2, h3, h4, h5⟩ := h1
     refine Done.val I ?_ hK ⟨g, b, cs, T', fr, h2, h3, rfl, h5⟩
     simp only [execOp, ho, h4, Sem.run_bind, Sem.run_pure, Result.andThen_ok, run_fieldAt hT rfl hf hj hpos, Nat.add_assoc]
    ·exact hK.elim
   ·exact hK.elim
  ·exact hK.elim
 ·exact hK.elim
theorem op_field {T : TypeId} {x : Operand} {f : Nat} (ho : o.op = .field T x f) (hK : opR Ω E draw ev h o.op id K) : Done ι imm h w K ((execOp ρ o).run P w) := by
 rw [ho] at hK
 have h1 := he x
 simp only [opR, w_slen, w_sget, w_ssub, w_sset, w_srep, w_scat, BrG_eq, DK_eq, w_ci, w_iand, w_ior, w_ixor, w_ishl, w_ishr, w_wrap, w_tmod, w_lt, w_le, w_eq, w_ne, w_ile, w_ilt, w_tn, w_nadd, w_nsub, w_nlt, w_leb, w_room, w_imax, w_imin, w_bget, w_bext, w_bcat, w_bsz, w_beqs] at hK
 split at hK
 ·rename_i sz by' z fs ht
  have hT := tt _ _ ht
  split at hK
  ·rename_i fd hf
   split at hK
   ·rename_i i hi
    have hj := tt _ _ hi
    have hu := hT.und
    split at hK
    ·rename_i cs hx
     rw [hx] at h1
     obtain ⟨vs, h2, h3, h4⟩ := h1
     obtain ⟨hfit, hone, hK⟩ := hK
     have hp := run_part hj w (cs := vs) (off := fd.offset) (by omega) hone.one
     refine Done.val I ?_ hK (shape_take h3 h4 hfit hone.one)
     simp only [execOp, ho, h2, Instr.field, Sem.run_bind, run_underlying hu, Sem.run_pure, Result.andThen_ok, hf, asAgg, hp]
    ·rename_i cs hx
     rw [hx] at h1
     obtain ⟨vs, h2, h3, h4⟩ := h1
     obtain ⟨hfit, hone, hK⟩ := hK
     have hp := run_part hj w (cs := vs) (off := fd.offset) (by omega) hone.one
     have := load_D (ι := ι) (x := .agg cs) (b := 0) (off := fd.offset) (n := i.size) (agg := isAggT i.und) (vs := vs) (fun j hj => by rw [Nat.zero_add]; exact h4 j hj) hfit hone.one
     rw [Nat.zero_add] at this
     refine Done.val I ?_ hK this
     simp only [execOp, ho, h2, Instr.field, Sem.run_bind, run_underlying hu, Sem.run_pure, Result.andThen_ok, hf, asAgg, hp]
    ·exact hK.elim
   ·exact hK.elim
  ·exact hK.elim
 ·exact hK.elim
theorem op_index {T : TypeId} {x y : Operand} (ho : o.op = .index T x y) (hK : opR Ω E draw ev h o.op id K) : Done ι imm h w K ((execOp ρ o).run P w) := by
 rw [ho] at hK
 have h1 := he x
 have h1y := he y
 simp only [opR, w_slen, w_sget, w_ssub, w_sset, w_srep, w_scat, BrG_eq, DK_eq, w_ci, w_iand, w_ior, w_ixor, w_ishl, w_ishr, w_wrap, w_tmod, w_lt, w_le, w_eq, w_ne, w_ile, w_ilt, w_tn, w_nadd, w_nsub, w_nlt, w_leb, w_room, w_imax, w_imin, w_bget, w_bext, w_bcat, w_bsz, w_beqs] at hK
 split at hK
 ·rename_i sz by' z n e ht
  have hT := tt _ _ ht
  have hu := hT.und
  split at hK
  ·rename_i i hi
   have hj := tt _ _ hi
   split at hK
   ·rename_i cs kk k hx hy
    rw [hx] at h1
    rw [hy] at h1y
    obtain ⟨vs, h2, h3, h4⟩ := h1
    have h5 := repI h1y
    obtain ⟨k0, k1, hfit, hone, hK⟩ := hK
    have k1 : k < (n : Int) := by omega
    have hp := run_part hj w (cs := vs) (off := k.toNat * i.size) (by omega) hone.one
    refine Done.val I ?_ hK (shape_take h3 h4 hfit hone.one)
    simp only [execOp, ho, h2, h5, Instr.index, asIntOf, Sem.run_bind, run_underlying hu, Sem.run_pure, Result.andThen_ok, k0, k1, and_self, if_true, hj.run_size, hp]
   ·rename_i cs kk k hx hy
    rw [hx] at h1
    rw [hy] at h1y
    obtain ⟨vs, h2, h3, h4⟩ := h1
    have h5 := repI h1y
    obtain ⟨k0, k1, hfit, hone, hK⟩ := hK
    have k1 : k < (n : Int) := by omega
    have hp := run_part hj w (cs := vs) (off := k.toNat * i.size) (by omega) hone.one
    have := load_D (ι := ι) (x := .agg cs) (b := 0) (off := k.toNat * i.size) (n := i.size) (agg := isAggT i.und) (vs := vs) (fun j hj => by rw [Nat.zero_add]; exact h4 j hj) hfit hone.one
    rw [Nat.zero_add] at this
    refine Done.val I ?_ hK this
    simp only [execOp, ho, h2, h5, Instr.index, asIntOf, Sem.run_bind, run_underlying hu, Sem.run_pure, Result.andThen_ok, k0, k1, and_self, if_true, hj.run_size, hp]
   ·exact hK.elim
  ·exact hK.elim
 ·rename_i sz by' z ht
  have hT := tt _ _ ht
  have hu := hT.und
  split at hK
  ·rename_i b kk k hx hy
   rw [hx] at h1
   rw [hy] at h1y
   have h2 := repS h1
   have h5 := repI h1y
   obtain ⟨k0, c', hc', hK⟩ := hK
   obtain ⟨c, hc, rfl⟩ := Option.map_eq_some_iff.1 hc'
   refine Done.val I ?_ hK (.i _ _)
   simp only [execOp, ho, h2, h5, Instr.index, asIntOf, Sem.run_bind, run_underlying hu, Sem.run_pure, Result.andThen_ok, k0, if_true, hc]
  ·exact hK.elim
 ·exact hK.elim
theorem op_indexAddr {T : TypeId} {x y : Operand} (ho : o.op = .indexAddr T x y) (hK : opR Ω E draw ev h o.op id K) : Done ι imm h w K ((execOp ρ o).run P w) := by
 rw [ho] at hK
 have h1 := he x
 have h1y := he y
 simp only [opR, w_slen, w_sget, w_ssub, w_sset, w_srep, w_scat, BrG_eq, DK_eq, w_ci, w_iand, w_ior, w_ixor, w_ishl, w_ishr, w_wrap, w_tmod, w_lt, w_le, w_eq, w_ne, w_ile, w_ilt, w_tn, w_nadd, w_nsub, w_nlt, w_leb, w_room, w_imax, w_imin, w_bget, w_bext, w_bcat, w_bsz, w_beqs] at hK
 split at hK
 ·rename_i sz by' z n e ht
  have hT := tt _ _ ht
  have hu := hT.und
  obtain ⟨ea, ee⟩ := arrayLen_of hu
  have hu' : P.underlying T = some (.array (P.arrayLen T) (P.elem T)) := by rw [ea, ee]; exact hu
  split at hK
  ·rename_i i hi
   have hj := tt _ _ hi
   have run : ∀ (g off : Nat) (kk : IntKind) (k : Int), 0 ≤ k → k < n → (Instr.indexAt T (.pointer (some ⟨g, off, none⟩)) (.int kk k)).run P w = .ok (.pointer (some ⟨g, off + k.toNat * i.size, none⟩)) w := fun g off kk k k0 k1 => by
    rw [run_indexAt_array (h := hu'), if_pos ⟨k0, by rw [ea]; exact k1⟩, ee, hj.run_size]
    simp only [Result.andThen_ok, addr_add]
   split at hK
   ·rename_i j off kk k hx hy
    rw [hx] at h1
    rw [hy] at h1y
    obtain ⟨g, h2, h3⟩ := h1
    have h5 := repI h1y
    obtain ⟨k0, k1, hK⟩ := hK
    have k1 : k < (n : Int) := by omega
    refine Done.val I ?_ hK ⟨g, h2, rfl⟩
    simp only [execOp, ho, h3, h5, Sem.run_bind, Sem.run_pure, Result.andThen_ok, run g off kk k k0 k1]
   ·rename_i j sz l off kk k hx hy
    rw [hx] at h1
    rw [hy] at h1y
    obtain ⟨g, m, cap, h2, h3⟩ := h1
    have h5 := repI h1y
    obtain ⟨k0, k1, hK⟩ := hK
    have k1 : k < (n : Int) := by omega
    refine Done.val I ?_ hK ⟨g, m, cap, h2, rfl⟩
    simp only [execOp, ho, h3, h5, Sem.run_bind, Sem.run_pure, Result.andThen_ok, run _ _ kk k k0 k1, Nat.add_assoc]
   ·rename_i y' off kk k hx hy
    rw [hx] at h1
    rw [hy] at h1y
    obtain ⟨g, b, cs, T', fr, h2, h3, h4, h5'⟩ := h1
    have h5 := repI h1y
    obtain ⟨k0, k1, hK⟩ := hK
    have k1 : k < (n : Int) := by omega
    refine Done.val I ?_ hK ⟨g, b, cs, T', fr, h2, h3, rfl, h5'⟩
    simp only [execOp, ho, h4, h5, Sem.run_bind, Sem.run_pure, Result.andThen_ok, run _ _ kk k k0 k1, Nat.add_assoc]
   ·exact hK.elim
  ·exact hK.elim
 ·rename_i sz by' z e ht
  have hT := tt _ _ ht
  have hu := hT.und
  have ee := elem_of hu
  have hu' : P.underlying T = some (.slice (P.elem T)) := by rw [ee]; exact hu
  split at hK
  ·rename_i i hi
   have hj := tt _ _ hi
   have run : ∀ (g off len cap : Nat) (kk : IntKind) (k : Int), 0 ≤ k → k < len → (Instr.indexAt T (.slice (some ⟨g, off, none⟩) len cap) (.int kk k)).run P w = .ok (.pointer (some ⟨g, off + k.toNat * i.size, none⟩)) w := fun g off len cap kk k k0 k1 => by
    rw [run_indexAt_slice (h := hu'), if_pos ⟨k0, k1⟩, ee, hj.run_size]
    simp only [Result.andThen_ok, addr_add]
   split at hK
   ·rename_i xs kk k hx hy
    rw [hx] at h1
    rw [hy] at h1y
    have h5 := repI h1y
    obtain ⟨k0, y', hy', hsz, hK⟩ := hK
    have hk : k.toNat < xs.length := (List.getElem?_eq_some_iff.1 hy').1
    have hmem : y' ∈ xs := List.mem_of_getElem? hy'
    have ey : xs.getD k.toNat .np = y' := by simp [List.getD, hy']
    obtain ⟨a, c, h2, h3⟩ := repSl h1
    cases h3 with
    | sl0 => simp at hk
    | sl _ g off cap sz' cs T' fr hne him hg hcap hs hb hr =>
     have hsz' : sz' = i.size := (hs y' hmem).symm.trans hsz
     subst hsz'
     refine Done.val I ?_ hK ⟨g, off + k.toNat * i.size, cs, T', fr, him, hg, rfl, fun j hj' => ?_⟩
     ·simp only [execOp, ho, h2, h5, Sem.run_bind, Sem.run_pure, Result.andThen_ok, run g off xs.length c kk k k0 (by omega), Nat.add_zero]
     ·rw [hsz] at hj'
      refine ⟨by have := hb k.toNat j hk hj'; omega, ?_⟩
      have := hr k.toNat j hk hj'
      rw [ey] at this
      rw [Nat.add_assoc]
      exact this
   ·rename_i j sz kk k hx hy
    rw [hx] at h1
    rw [hy] at h1y
    have h5 := repI h1y
    split at hK
    ·rename_i l e' z' xs hj'
     obtain ⟨rfl, rfl, k0, k1, hK⟩ := hK
     obtain ⟨v', h4, h6⟩ := I.blk j _ hj'
     obtain ⟨h7, h8⟩ := h1
     rw [h7] at h4; cases h4
     have hform : ∃ g cap, ρ x = .slice (some ⟨g, 0, none⟩) xs.length cap := by
      rcases h8 with h8 | ⟨g, n, cap, h8⟩
      ·exfalso
       rw [h8] at h6
       cases l with
       | true =>
        obtain ⟨cells, ho', _⟩ := h6
        rcases ho'.2 with ⟨_, hn⟩ | ⟨g, cap, cur, c, _⟩
        ·omega
        ·cases c
       | false => have := h6.1.len; omega
      ·rw [h8] at h6
       have hn : n = xs.length := by
        cases l with
        | true =>
         obtain ⟨cells, ho', _⟩ := h6
         rcases ho'.2 with ⟨c, _⟩ | ⟨g, cap, cur, c, _⟩
         ·cases c
         ·cases c; rfl
        | false => exact h6.1.len
       subst hn
       exact ⟨g, cap, h8⟩
     obtain ⟨g, cap, h9⟩ := hform
     refine Done.val I ?_ hK ⟨g, xs.length, cap, h9 ▸ h7, rfl⟩
     simp only [execOp, ho, h9, h5, Sem.run_bind, Sem.run_pure, Result.andThen_ok, run g 0 _ cap kk k k0 k1, Nat.add_zero, Nat.zero_add]
    ·exact hK.elim
   ·rename_i j sz off len kk k hx hy
    rw [hx] at h1
    rw [hy] at h1y
    have h5 := repI h1y
    obtain ⟨rfl, k0, k1, hK⟩ := hK
    rcases h1 with ⟨g, n, cap, c, h2, h3, h4⟩ | ⟨_, h3, _⟩
    ·refine Done.val I ?_ hK ⟨g, n, cap, h2, rfl⟩
     simp only [execOp, ho, h3, h5, Sem.run_bind, Sem.run_pure, Result.andThen_ok, run _ _ _ c kk k k0 k1, Nat.add_zero, Nat.add_mul]
    ·omega
   ·exact hK.elim
  ·exact hK.elim
 ·exact hK.elim
end
end Go.K
end
section
namespace Go.K
open Go
section
variable {ι : Nat → Option Value} {imm : Nat → Prop} {h : Heap} {w : World} {K : Out → Prop}
variable {P : Program} {E : Env} {draw : Bool} {ev : Operand → V} {ρ : Operand → Value} {o : Oper} {id : Nat}
def bnd (x : Option Value) (dflt : Int) (n : Int) : Prop := (x = none ∧ n = dflt) ∨ ∃ k, x = some (.int k n)
theorem run_bounds {isSlice : Bool} {len cap : Nat} {lo hi mx : Option Value} {l u m : Int} (hl : bnd lo 0 l) (hu : bnd hi len u) (hm : bnd mx cap m) (hh : mx.isSome = true → hi.isSome = true)
  (h0 : 0 ≤ l) (h1 : l ≤ u) (h2 : u ≤ m) (h3 : m ≤ cap) (w : World) : (Instr.sliceBounds isSlice len cap lo hi mx).run P w = .ok (l.toNat, u.toNat, m.toNat) w := by
 have em : (m.toNat : Int) = m := Int.toNat_of_nonneg (by omega)
 have eu : (u.toNat : Int) = u := Int.toNat_of_nonneg (by omega)
 rcases hm with ⟨rfl, rfl⟩ | ⟨km, rfl⟩
 ·rcases hu with ⟨rfl, rfl⟩ | ⟨ku, rfl⟩
  ·rcases hl with ⟨rfl, rfl⟩ | ⟨kl, rfl⟩
   ·simp [Instr.sliceBounds]
   ·have := run_sliceBound (P := P) w kl l len .sliceB h0 h1
    simp [Instr.sliceBounds, this]
  ·have a := fun c => run_sliceBound (P := P) w ku u cap c (by omega) (by omega)
   rcases hl with ⟨rfl, rfl⟩ | ⟨kl, rfl⟩
   ·simp [Instr.sliceBounds, a]
   ·have b := run_sliceBound (P := P) w kl l u.toNat .sliceB h0 (by omega)
    simp [Instr.sliceBounds, a, b]
 ·rcases hu with ⟨rfl, rfl⟩ | ⟨ku, rfl⟩
  ·simp at hh
  ·have c := fun c => run_sliceBound (P := P) w km m cap c (by omega) h3
   have a := fun c => run_sliceBound (P := P) w ku u m.toNat c (by omega) (by omega)
   rcases hl with ⟨rfl, rfl⟩ | ⟨kl, rfl⟩
   ·simp [Instr.sliceBounds, a, c]
   ·have b := fun c => run_sliceBound (P := P) w kl l u.toNat c h0 (by omega)
    simp [Instr.sliceBounds, a, b, c]
theorem bnd_low {x : Option Operand} {l : Int} (he : ∀ x, RepV ι imm w (ev x) (ρ x)) (hl : lowOf (x.map ev) = some l) : bnd (x.map ρ) 0 l := by
 cases x with
 | none => cases hl; exact .inl ⟨rfl, rfl⟩
 | some x =>
  have h1 := he x
  simp only [Option.map_some] at hl ⊢
  generalize ev x = v at hl h1
  unfold lowOf at hl
  split at hl
  ·rename_i e; cases e
  ·rename_i k n e; cases e; cases hl
   exact .inr ⟨k, congrArg some (repI h1)⟩
  ·cases hl
theorem bnd_high {x : Option Operand} {len : Nat} {l : Int} (he : ∀ x, RepV ι imm w (ev x) (ρ x)) (hl : highOf Ω len (x.map ev) = some l) : bnd (x.map ρ) len l := by
 cases x with
 | none => cases hl; exact .inl ⟨rfl, rfl⟩
 | some x =>
  have h1 := he x
  simp only [Option.map_some] at hl ⊢
  generalize ev x = v at hl h1
  unfold highOf at hl
  split at hl
  ·rename_i e; cases e
  ·rename_i k n e; cases e; cases hl
   exact .inr ⟨k, congrArg some (repI h1)⟩
  ·cases hl
theorem bnd_max {x : Option Operand} {len cap : Nat} {m : Int} (he : ∀ x, RepV ι imm w (ev x) (ρ x)) (hl : highOf Ω len (x.map ev) = some m) (hc : len ≤ cap) : ∃ m' : Int, bnd (x.map ρ) cap m' ∧ m ≤ m' ∧ (m ≤ len → m' ≤ cap) := by
 cases x with
 | none => cases hl; exact ⟨cap, .inl ⟨rfl, rfl⟩, by simp only [w_ci]; omega, fun _ => Int.le_refl _⟩
 | some x =>
  have := bnd_high he hl
  rcases this with ⟨e, _⟩ | ⟨k, e⟩
  ·cases e
  ·exact ⟨m, .inr ⟨k, e⟩, Int.le_refl _, fun _ => by omega⟩
variable (I : Inv ι imm h w) (tt : TTok P E.tt) (he : ∀ x, RepV ι imm w (ev x) (ρ x))
include I tt he
theorem op_slice {T : TypeId} {x : Operand} {lo hi mx : Option Operand} (ho : o.op = .slice T x lo hi mx) (hK : opR Ω E draw ev h o.op id K) : Done ι imm h w K ((execOp ρ o).run P w) := by
 rw [ho] at hK
 have h1 := he x
 simp only [opR, w_slen, w_sget, w_ssub, w_sset, w_srep, w_scat, BrG_eq, DK_eq, w_ci, w_iand, w_ior, w_ixor, w_ishl, w_ishr, w_wrap, w_tmod, w_lt, w_le, w_eq, w_ne, w_ile, w_ilt, w_tn, w_nadd, w_nsub, w_nlt, w_leb, w_room, w_imax, w_imin, w_bget, w_bext, w_bcat, w_bsz, w_beqs] at hK
 split at hK
 ·rename_i sz by' z e ht
  have hT := tt _ _ ht
  have hu := hT.und
  have ee := elem_of hu
  have hu' : P.underlying T = some (.slice (P.elem T)) := by rw [ee]; exact hu
  split at hK
  ·rename_i i hi'
   have hj := tt _ _ hi'
   have run : ∀ (a : Option Addr) (len cap : Nat) (l u m : Int), bnd (lo.map ρ) 0 l → bnd (hi.map ρ) len u → bnd (mx.map ρ) cap m → (mx.isSome = true → hi.isSome = true) → 0 ≤ l → l ≤ u → u ≤ m → m ≤ cap →
     (Instr.sliceAt T (.slice a len cap) (lo.map ρ) (hi.map ρ) (mx.map ρ)).run P w = .ok (sliced a l.toNat u.toNat m.toNat i.size) w := fun a len cap l u m b1 b2 b3 hh h0 h1 h2 h3 => by
    rw [run_sliceAt_slice (h := hu'), run_slice_any (ht := hu'), run_bounds b1 b2 b3 (by simpa using hh) h0 h1 h2 h3, ee]
    simp only [Result.andThen_ok, hj.run_size]
   split at hK
   ·rename_i xs hx
    rw [hx] at h1
    obtain ⟨a, c, h2, h3⟩ := repSl h1
    split at hK
    ·rename_i l u m hl hu'' hm
     obtain ⟨h0, hlu, hum, hmx, hh, huni, hK⟩ := hK
     have hlc : xs.length ≤ c := by
      cases h3 with
      | sl0 => simp
      | sl => assumption
     obtain ⟨m', b3, hmm, hmc⟩ := bnd_max (cap := c) he hm hlc
     have hr := run a xs.length c l u m' (bnd_low he hl) (bnd_high he hu'') b3 hh h0 hlu (by omega) (hmc hmx)
     refine Done.val (v := sliced a l.toNat u.toNat m'.toNat i.size) I ?_ hK ?_
     ·simp only [execOp, ho, h2, Sem.run_bind, Sem.run_pure, Result.andThen_ok, hr]
     ·show RepC imm w (.sl _) _
      unfold sliced
      by_cases hz : u.toNat - l.toNat = 0
      ·rw [hz, List.take_zero]
       exact .sl0 _ _
      ·rw [if_neg (by omega)]
       have h3' := h3
       cases h3 with
       | sl0 => simp at hmx; omega
       | sl _ g off =>
        simp only [Option.map_some, addr_add]
        exact h3'.piece huni (by omega) (by omega)
    ·exact hK.elim
   ·rename_i j sz' hx
    rw [hx] at h1
    split at hK
    ·rename_i l' e' z' xs hj'
     split at hK
     ·rename_i hlm
      obtain ⟨rfl, hmx0⟩ := hlm
      split at hK
      ·rename_i ku u km m hu2 hm2
       obtain ⟨rfl, rfl, rfl, h0, hum, hmx, hid, hK⟩ := hK
       obtain ⟨v', h4, h6⟩ := I.blk j _ hj'
       obtain ⟨h7, h8⟩ := h1
       rw [h7] at h4; cases h4
       obtain ⟨cells, ho', hux, hcx⟩ := h6
       have b1 : bnd ((none : Option Operand).map ρ) 0 0 := .inl ⟨rfl, rfl⟩
       have b2 : ∀ len : Nat, bnd (hi.map ρ) len u := fun len => bnd_high (ι := ι) (imm := imm) (w := w) he (len := len) (by rw [hu2]; rfl)
       have b3 : ∀ cap : Nat, bnd (mx.map ρ) cap m := fun cap => bnd_high (ι := ι) (imm := imm) (w := w) he (len := cap) (by rw [hm2]; rfl)
       have hh : mx.isSome = true → hi.isSome = true := fun _ => by cases hi with
        | none => cases hu2
        | some _ => rfl
       have hne : j ≠ id := fun q => by subst q; rw [hid] at hj'; cases hj'
       rcases ho'.2 with ⟨h9, hn⟩ | ⟨g, cap, cur, h9, hb0, hg, hnc, hcm, hcs, htake⟩
       ·have hr := run none 0 0 0 u m b1 (b2 0) (b3 0) hh (Int.le_refl _) h0 hum (by omega)
        have g1 := I.giveUp hj'
        have hid2 : upd h j (some Blk.dead) id = none := by rw [upd_other _ _ _ _ (Ne.symm hne)]; exact hid
        have hxs : xs = [] := List.eq_nil_of_length_eq_zero hn
        subst hxs
        simp only [List.drop_zero, List.take_nil] at hK
        have st := g1.1.fresh hid2 (.slice none 0 0) (.row true e' i.size []) (w' := w) (Nat.le_refl _) (fun _ _ => rfl) rfl rfl rfl (fun g hg => by cases hg)
         ⟨[], rowOwn_nil w 0 e' i.size, fun _ q => absurd q List.not_mem_nil, fun _ _ q => absurd q (Nat.not_lt_zero _)⟩
        have hv : sliced none (0 : Int).toNat u.toNat m.toNat i.size = .slice none 0 0 := by
         have hm0 : m.toNat = 0 := by simp at hmx; omega
         have hu0 : u.toNat = 0 := by omega
         unfold sliced
         rw [hm0, hu0]
         split <;> rfl
        rw [hv] at hr
        refine ⟨_, .slice none 0 0, _, _, imm, .inl ?_, hK, g1.2.trans st.2, st.1, ⟨upd_same _ _ _, .inl rfl⟩⟩
        simp only [execOp, ho, h9, Sem.run_bind, Sem.run_pure, Result.andThen_ok, hr]
       ·have hr := run (some ⟨g, 0, none⟩) xs.length cap 0 u m b1 (b2 _) (b3 cap) hh (Int.le_refl _) h0 hum (by omega)
        have hv : sliced (some ⟨g, 0, none⟩) (0 : Int).toNat u.toNat m.toNat i.size = .slice (some ⟨g, 0, none⟩) u.toNat m.toNat := by
         unfold sliced
         by_cases hm0 : m.toNat = 0
         ·have hu0 : u.toNat = 0 := by omega
          simp [hm0, hu0]
         ·simp [hm0, addr_add]
        rw [hv] at hr
        rw [h9] at h7
        have st := I.moved hj' rfl h7 rfl hid (v := .slice (some ⟨g, 0, none⟩) u.toNat m.toNat) (B := .row true e' i.size ((xs.drop 0).take u.toNat)) (w' := w) (Nat.le_refl _) (fun _ _ _ => rfl) rfl rfl rfl rfl ?_
        ·refine ⟨_, .slice (some ⟨g, 0, none⟩) u.toNat m.toNat, _, _, imm, .inl ?_, hK, st.2, st.1, ⟨upd_same _ _ _, .inr ⟨_, _, _, rfl⟩⟩⟩
         simp only [execOp, ho, h9, Sem.run_bind, Sem.run_pure, Result.andThen_ok, hr]
        ·have hul : ((xs.drop 0).take u.toNat).length = u.toNat := by simp; omega
         have hle : u.toNat * i.size ≤ xs.length * i.size := Nat.mul_le_mul_right _ (by omega)
         have hcl : cells.length = xs.length * i.size := ho'.1
         refine ⟨cells.take (u.toNat * i.size), ⟨?_, .inr ⟨g, m.toNat, cur, by rw [hul], Nat.zero_le _, hg, by rw [hul]; omega, by omega, Nat.le_trans (Nat.mul_le_mul_right _ (by omega)) hcs, ?_⟩⟩, fun x hx => hux x (by simpa using List.mem_of_mem_take hx), fun a b ha hb => ?_⟩
         ·rw [hul, List.length_take]; omega
         ·rw [hul, ← htake, List.take_take, Nat.min_eq_left hle]
         ·rw [hul] at ha
          have hlt : a * i.size + b < u.toNat * i.size := by
           have := Nat.mul_le_mul_right i.size (Nat.succ_le_of_lt ha); rw [Nat.succ_mul] at this; omega
          have e1 : ((xs.drop 0).take u.toNat).getD a .np = xs.getD a .np := by simp [List.getD, ha]
          have e2 : (cells.take (u.toNat * i.size)).getD (a * i.size + b) undef = cells.getD (a * i.size + b) undef := by simp [List.getD, hlt]
          rw [e1, e2]
          exact hcx a b (by omega) hb
      ·exact hK.elim
     split at hK
     ·rename_i l u m hl hu'' hm
      obtain ⟨rfl, rfl, h0, hlu, hum, hmx, hh, hK⟩ := hK
      obtain ⟨v', h4, h6⟩ := I.blk j _ hj'
      obtain ⟨h7, h8⟩ := h1
      rw [h7] at h4; cases h4
      have hform : ρ x = .slice none 0 0 ∧ xs.length = 0 ∨ ∃ g cap, ρ x = .slice (some ⟨g, 0, none⟩) xs.length cap ∧ xs.length ≤ cap := by
       rcases h8 with h8 | ⟨g, n, cap, h8⟩
       ·left
        refine ⟨h8, ?_⟩
        rw [h8] at h6
        cases l' with
        | true =>
         obtain ⟨cells, ho', _⟩ := h6
         rcases ho'.2 with ⟨_, hn⟩ | ⟨g, cap, cur, c, _⟩
         ·exact hn
         ·cases c
        | false => exact h6.1.len.symm
       ·right
        rw [h8] at h6
        cases l' with
        | true =>
         obtain ⟨cells, ho', _⟩ := h6
         rcases ho'.2 with ⟨c, _⟩ | ⟨g', cap', cur, c, _, _, hc, _⟩
         ·cases c
         ·cases c; exact ⟨g, cap, h8, hc⟩
        | false =>
         have hn := h6.1.len
         subst hn
         refine ⟨g, cap, h8, ?_⟩
         cases h6.1 with
         | sl0 => simp
         | sl => assumption
      rcases hform with ⟨h9, hn⟩ | ⟨g, cap, h9, hc⟩
      ·obtain ⟨m', b3, hmm, hmc⟩ := bnd_max (cap := 0) he hm (by omega)
       have hu2 := bnd_high (ι := ι) (imm := imm) (w := w) he hu''
       rw [hn] at hu2
       have hr := run none 0 0 l u m' (bnd_low he hl) hu2 b3 hh h0 hlu (by omega) (hmc (by omega))
       refine Done.val (v := sliced none l.toNat u.toNat m'.toNat i.size) I ?_ hK (.inr ⟨⟨_, h7⟩, by omega, none, ?_⟩)
       ·simp only [execOp, ho, h9, Sem.run_bind, Sem.run_pure, Result.andThen_ok, hr]
       ·have hm0 := hmc (by omega)
        unfold sliced
        rw [show u.toNat - l.toNat = 0 by omega, show m'.toNat - l.toNat = 0 by omega]
        split <;> rfl
      ·obtain ⟨m', b3, hmm, hmc⟩ := bnd_max (cap := cap) he hm hc
       have hr := run (some ⟨g, 0, none⟩) xs.length cap l u m' (bnd_low he hl) (bnd_high he hu'') b3 hh h0 hlu (by omega) (hmc hmx)
       have hmc' := hmc hmx
       refine Done.val (v := sliced (some ⟨g, 0, none⟩) l.toNat u.toNat m'.toNat i.size) I ?_ hK ?_
       ·simp only [execOp, ho, h9, Sem.run_bind, Sem.run_pure, Result.andThen_ok, hr]
       ·unfold sliced
        by_cases hml : m'.toNat = l.toNat
        ·rw [if_pos hml]
         refine .inr ⟨⟨_, h7⟩, by omega, some ⟨g, 0, none⟩, ?_⟩
         rw [show u.toNat - l.toNat = 0 by omega, show m'.toNat - l.toNat = 0 by omega]
        ·rw [if_neg hml]
         refine .inl ⟨g, xs.length, cap, m'.toNat - l.toNat, h9 ▸ h7, ?_, by omega, by omega⟩
         simp only [Option.map_some, addr_add, Nat.zero_add]
     ·exact hK.elim
    ·exact hK.elim
   ·rename_i j sz' off len hx
    rw [hx] at h1
    split at hK
    ·rename_i l u m hl hu'' hm
     obtain ⟨rfl, h0, hlu, hum, hmx, hh, hK⟩ := hK
     rcases h1 with ⟨g, n, cap, c, h2, h3, h4, h5⟩ | ⟨⟨q, h2⟩, rfl, base, h3⟩
     ·obtain ⟨m', b3, hmm, hmc⟩ := bnd_max (cap := c) he hm h4
      have hmc' := hmc hmx
      have hr := run (some ⟨g, off * i.size, none⟩) len c l u m' (bnd_low he hl) (bnd_high he hu'') b3 hh h0 hlu (by omega) hmc'
      refine Done.val (v := sliced (some ⟨g, off * i.size, none⟩) l.toNat u.toNat m'.toNat i.size) I ?_ hK ?_
      ·simp only [execOp, ho, h3, Sem.run_bind, Sem.run_pure, Result.andThen_ok, hr]
      ·unfold sliced
       by_cases hml : m'.toNat = l.toNat
       ·rw [if_pos hml]
        refine .inr ⟨⟨_, h2⟩, by omega, some ⟨g, off * i.size, none⟩, ?_⟩
        rw [show u.toNat - l.toNat = 0 by omega, show m'.toNat - l.toNat = 0 by omega]
       ·rw [if_neg hml]
        refine .inl ⟨g, n, cap, m'.toNat - l.toNat, h2, ?_, by omega, by omega⟩
        simp only [Option.map_some, addr_add, Nat.add_mul]
     ·obtain ⟨m', b3, hmm, hmc⟩ := bnd_max (cap := 0) he hm (Nat.le_refl _)
      have hmc' := hmc hmx
      have hr := run base 0 0 l u m' (bnd_low he hl) (bnd_high he hu'') b3 hh h0 hlu (by omega) hmc'
      refine Done.val (v := sliced base l.toNat u.toNat m'.toNat i.size) I ?_ hK (.inr ⟨⟨_, h2⟩, by omega, if m'.toNat = l.toNat then base else base.map (·.add (l.toNat * i.size)), ?_⟩)
      ·simp only [execOp, ho, h3, Sem.run_bind, Sem.run_pure, Result.andThen_ok, hr]
      ·unfold sliced
       rw [show u.toNat - l.toNat = 0 by omega, show m'.toNat - l.toNat = 0 by omega]
    ·exact hK.elim
   ·exact hK.elim
  ·exact hK.elim
 ·rename_i sz by' z ht
  have hT := tt _ _ ht
  have hu := hT.und
  split at hK
  ·rename_i b hx
   rw [hx] at h1
   have h2 := repS h1
   split at hK
   ·rename_i l u hl hu''
    obtain ⟨rfl, h0, hlu, hus, hK⟩ := hK
    have hr := run_bounds (P := P) (isSlice := false) (len := b.size) (cap := b.size) (mx := none) (m := b.size) (bnd_low he hl) (bnd_high he hu'') (.inl ⟨rfl, rfl⟩) (by simp) h0 hlu hus (Int.le_refl _) w
    refine Done.val (v := .string (b.extract l.toNat u.toNat)) I ?_ hK (.s _)
    simp only [execOp, ho, h2, Option.map_none]
    rw [show ∀ a b c d, (do let x ← Instr.sliceAt T a b c d; pure (Next.value x) : Sem Next) = (Instr.sliceAt T a b c d >>= fun x => pure (Next.value x)) from fun _ _ _ _ => rfl]
    rw [Sem.run_bind, run_sliceAt_string (h := hu)]
    simp only [Instr.slice, Sem.run_bind, run_underlying hu, Result.andThen_ok, Option.isSome_none, Bool.false_eq_true, if_false, hr, Sem.run_pure]
   ·exact hK.elim
  ·exact hK.elim
 ·exact hK.elim
theorem op_convert {S T : TypeId} {x : Operand} (ho : o.op = .convert S T x) (hK : opR Ω E draw ev h o.op id K) : Done ι imm h w K ((execOp ρ o).run P w) := by
 rw [ho] at hK
 have h1 := he x
 simp only [opR, w_slen, w_sget, w_ssub, w_sset, w_srep, w_scat, BrG_eq, DK_eq, w_ci, w_iand, w_ior, w_ixor, w_ishl, w_ishr, w_wrap, w_tmod, w_lt, w_le, w_eq, w_ne, w_ile, w_ilt, w_tn, w_nadd, w_nsub, w_nlt, w_leb, w_room, w_imax, w_imin, w_bget, w_bext, w_bcat, w_bsz, w_beqs] at hK
 split at hK
 ·rename_i i sz by' z k k' n hs ht hx
  have hS := (tt _ _ hs).und
  have hT := (tt _ _ ht).und
  rw [hx] at h1
  have h2 := repI h1
  refine Done.val (v := .int k (k.wrap n)) I ?_ hK (.i _ _)
  simp only [execOp, ho, h2, convert, Sem.run_bind, run_underlying hS, run_underlying hT, Result.andThen_ok, Conv.intToInt, Sem.run_pure]
 ·rename_i b hs ht hx
  have hS := (tt _ _ hs).und
  have hT := (tt _ _ ht).und
  rw [hx] at h1
  have h2 := repS h1
  refine Done.val (v := .string b) I ?_ hK (.s _)
  simp only [execOp, ho, h2, convert, Sem.run_bind, run_underlying hS, run_underlying hT, Result.andThen_ok, Sem.run_pure]
 ·exact hK.elim
theorem op_makeInterface {T : TypeId} {x : Operand} (ho : o.op = .makeInterface T x) (hK : opR Ω E draw ev h o.op id K) : Done ι imm h w K ((execOp ρ o).run P w) := by
 rw [ho] at hK
 have h1 := he x
 simp only [opR, w_slen, w_sget, w_ssub, w_sset, w_srep, w_scat, BrG_eq, DK_eq, w_ci, w_iand, w_ior, w_ixor, w_ishl, w_ishr, w_wrap, w_tmod, w_lt, w_le, w_eq, w_ne, w_ile, w_ilt, w_tn, w_nadd, w_nsub, w_nlt, w_leb, w_room, w_imax, w_imin, w_bget, w_bext, w_bcat, w_bsz, w_beqs] at hK
 split at hK
 ·rename_i k n ht hx
  have hT := (tt _ _ ht).und
  rw [hx] at h1
  have h2 := repI h1
  refine Done.val (v := .iface T (.int k n)) I ?_ hK (.ifc _ _ _ (.i _ _))
  simp only [execOp, ho, h2, Instr.makeInterface, Sem.run_bind, run_underlying hT, Result.andThen_ok, Sem.run_pure]
 ·exact hK.elim
theorem op_unOp {op : UnOp} {T : TypeId} {x : Operand} (ho : o.op = .unOp op T x) (hK : opR Ω E draw ev h o.op id K) : Done ι imm h w K ((execOp ρ o).run P w) := by
 rw [ho] at hK
 have h1 := he x
 simp only [opR, w_slen, w_sget, w_ssub, w_sset, w_srep, w_scat, BrG_eq, DK_eq, w_ci, w_iand, w_ior, w_ixor, w_ishl, w_ishr, w_wrap, w_tmod, w_lt, w_le, w_eq, w_ne, w_ile, w_ilt, w_tn, w_nadd, w_nsub, w_nlt, w_leb, w_room, w_imax, w_imin, w_bget, w_bext, w_bcat, w_bsz, w_beqs] at hK
 split at hK
 ·rename_i t hx
  rw [hx] at h1
  have h2 := repB h1
  refine Done.val (v := .bool (!t)) I ?_ hK (.b _)
  simp only [execOp, ho, h2, Op.unary, Sem.run_bind, Result.andThen_ok, Sem.run_pure]
 ·rename_i k n hx
  rw [hx] at h1
  have h2 := repI h1
  refine Done.val (v := .int k (k.wrap (0 - n))) I ?_ hK (.i _ _)
  simp only [execOp, ho, h2, Op.unary, Op.intArith, Sem.run_bind, Result.andThen_ok, Sem.run_pure]
 ·rename_i k n hx
  rw [hx] at h1
  have h2 := repI h1
  refine Done.val (v := .int k _) I ?_ hK (.i _ _)
  simp only [execOp, ho, h2, Op.unary, Op.intBits, Sem.run_bind, Result.andThen_ok, Sem.run_pure]
 ·exact hK.elim
end
end Go.K
end
section
namespace Go.K
open Go
section
variable {ι : Nat → Option Value} {imm : Nat → Prop} {h : Heap} {w : World} {K : Out → Prop}
variable {P : Program} {E : Env} {draw : Bool} {ev : Operand → V} {ρ : Operand → Value} {o : Oper} {id : Nat}
theorem eqGuard_int (op : BinOp) (T : TypeId) (x y : Operand) (k k' : IntKind) (a c : Int) : (eqGuard op T x y (.int k a) (.int k' c)).run P w = .ok () w := by
 unfold eqGuard
 split <;> rfl
theorem eqGuard_bool (op : BinOp) (T : TypeId) (x y : Operand) (a c : Bool) : (eqGuard op T x y (.bool a) (.bool c)).run P w = .ok () w := by
 unfold eqGuard
 split <;> rfl
theorem eqGuard_slice (op : BinOp) (T : TypeId) (x y : Operand) (a a' : Option Addr) (n c n' c' : Nat) : (eqGuard op T x y (.slice a n c) (.slice a' n' c')).run P w = .ok () w := by
 unfold eqGuard
 split <;> rfl
theorem eqGuard_str (op : BinOp) (T : TypeId) (x y : Operand) (a c : ByteArray) : (eqGuard op T x y (.string a) (.string c)).run P w = .ok () w := by
 unfold eqGuard
 split <;> rfl
theorem run_equalIn_bool (d : Nat) (T : TypeId) (a c : Bool) (hu : P.underlying T = some .bool) : (Op.equalIn (d + 1) T (.bool a) (.bool c)).run P w = .ok (a == c) w := by
 simp [Op.equalIn, run_underlying hu]
theorem run_equal_bool (T : TypeId) (a c : Bool) (hu : P.underlying T = some .bool) : (Op.equal T (.bool a) (.bool c)).run P w = .ok (a == c) w := run_equalIn_bool 9999 T a c hu
def toVal : D → Value
 | .b x => .bool x
 | .i k n => .int k n
 | .s x => .string x
 | _ => undef
theorem run_binD (tt : TTok P E.tt) {op : BinOp} {T : TypeId} {a c r : D} {va vc : Value} (hd : binD Ω op a c = some r) (ha : RepV ι imm w (.d a) va) (hc : RepV ι imm w (.d c) vc) (hb : eqTy E.tt T a)
  (x y : Operand) : ∃ v, (do eqGuard op T x y va vc; binOp op T va vc : Sem Value).run P w = .ok v w ∧ RepV ι imm w (.d r) v := by
 suffices hh : (do eqGuard op T x y va vc; binOp op T va vc : Sem Value).run P w = .ok (toVal r) w ∧ RepV ι imm w (.d r) (toVal r) from ⟨_, hh⟩
 cases a with
 | i k n =>
  cases c with
  | i k' m =>
   have e1 := repI ha
   have e2 := repI hc
   subst e1 e2
   by_cases hk : k = k'
   ·subst hk
    rw [Sem.run_bind, eqGuard_int]
    simp only [Result.andThen_ok]
    cases op <;> simp only [binD, if_true, Option.some.injEq, reduceCtorEq] at hd
    all_goals subst hd
    all_goals refine ⟨?_, (by first | exact RepC.i _ _ | exact RepC.b _)⟩
    all_goals simp [binOp, Op.intArith, Op.intCmp, toVal, w_wrap, w_lt, w_le, w_eq, w_ne]
   ·cases op <;> simp only [binD, if_neg hk] at hd <;> cases hd
  | _ => cases op <;> simp [binD] at hd
 | b t =>
  cases c with
  | b t' =>
   have e1 := repB ha
   have e2 := repB hc
   subst e1 e2
   have hu : P.underlying T = some .bool := by
    simp only [eqTy] at hb
    split at hb
    ·rename_i ht; exact (tt _ _ ht).und
    ·exact hb.elim
   rw [Sem.run_bind, eqGuard_bool]
   simp only [Result.andThen_ok]
   cases op <;> simp only [binD, Option.some.injEq, reduceCtorEq] at hd
   all_goals subst hd
   all_goals refine ⟨?_, (by first | exact RepC.i _ _ | exact RepC.b _)⟩
   all_goals simp only [binOp]
   all_goals simp [run_equal_bool (w := w) T _ _ hu, toVal]
  | _ => cases op <;> simp [binD] at hd
 | s t =>
  cases c with
  | s t' =>
   have e1 := repS ha
   have e2 := repS hc
   subst e1 e2
   rw [Sem.run_bind, eqGuard_str]
   simp only [Result.andThen_ok]
   cases op <;> simp only [binD, Option.some.injEq, reduceCtorEq] at hd
   all_goals subst hd
   all_goals refine ⟨?_, (by first | exact RepC.i _ _ | exact RepC.b _)⟩
   all_goals simp [binOp, Op.stringOp, toVal, w_beqs, w_bnes]
  | _ => cases op <;> simp [binD] at hd
 | _ => cases op <;> cases c <;> simp [binD] at hd
variable (I : Inv ι imm h w) (tt : TTok P E.tt) (he : ∀ x, RepV ι imm w (ev x) (ρ x))
include I tt he
theorem op_binOp {op : BinOp} {T U : TypeId} {x y : Operand} (ho : o.op = .binOp op T x y U) (hK : opR Ω E draw ev h o.op id K) : Done ι imm h w K ((execOp ρ o).run P w) := by
 rw [ho] at hK
 have h1 := he x
 have h1y := he y
 simp only [opR, w_slen, w_sget, w_ssub, w_sset, w_srep, w_scat, BrG_eq, DK_eq, w_ci, w_iand, w_ior, w_ixor, w_ishl, w_ishr, w_wrap, w_tmod, w_lt, w_le, w_eq, w_ne, w_ile, w_ilt, w_tn, w_nadd, w_nsub, w_nlt, w_leb, w_room, w_imax, w_imin, w_bget, w_bext, w_bcat, w_bsz, w_beqs] at hK
 have fin : ∀ v (r : D), (binOp op T (ρ x) (ρ y)).run P w = .ok v w → (eqGuard op T x y (ρ x) (ρ y)).run P w = .ok () w → RepV ι imm w (.d r) v → K { v := .d r } → Done ι imm h w K ((execOp ρ o).run P w) := fun v r hr hg hR hk => by
  refine Done.val (v := v) I ?_ hk hR
  simp only [execOp, ho, Sem.run_bind, hg, Result.andThen_ok, hr, Sem.run_pure]
 have finI : ∀ (k : IntKind) (n : Int), (binOp op T (ρ x) (ρ y)).run P w = .ok (.int k n) w → (eqGuard op T x y (ρ x) (ρ y)).run P w = .ok () w → K { v := .d (.i k n) } → Done ι imm h w K ((execOp ρ o).run P w) :=
  fun k n hr hg hk => fin (.int k n) (.i k n) hr hg (RepC.i k n) hk
 split at hK
 ·rename_i xs hx hy
  rw [hx] at h1
  rw [hy] at h1y
  obtain ⟨a, c, h2, h3⟩ := repSl h1
  have h4 : ρ y = .slice none 0 0 := h1y
  obtain ⟨_, rfl, hty, hK⟩ := hK
  have hu : ∃ e, P.underlying T = some (.slice e) := by
   split at hty
   ·rename_i ht; exact ⟨_, (tt _ _ ht).und⟩
   ·exact hty.elim
  obtain ⟨e, hu⟩ := hu
  refine fin (.bool a.isNone) (.b a.isNone) ?_ (by rw [h2, h4]; exact eqGuard_slice _ _ _ _ _ _ _ _ _ _) (RepC.b _) (hK a.isNone fun ha => ?_)
  ·rw [h2, h4]
   simp only [binOp]
   simp [run_equal_slice_nil w T e a xs.length c hu]
  ·cases h3 with
   | sl0 => rfl
   | sl => cases ha
 ·rename_i a c hx hy
  rw [hx] at h1
  rw [hy] at h1y
  split at hK
  ·rename_i r hd
   obtain ⟨hty, hK⟩ := hK
   obtain ⟨v, hr, hR⟩ := run_binD (ι := ι) (imm := imm) (w := w) tt hd h1 h1y hty x y
   refine Done.val (v := v) I ?_ hK hR
   simp only [execOp, ho, Sem.run_bind] at hr ⊢
   rw [hr]
   rfl
  ·split at hK
   ·rename_i a c _
    obtain ⟨hsz, hK⟩ := hK
    have h2 := repS h1
    have h3 := repS h1y
    refine fin (.string (a ++ c)) (.s (a ++ c)) ?_ (by rw [h2, h3]; exact eqGuard_str _ _ _ _ _ _) (RepC.s (a ++ c)) hK
    rw [h2, h3]
    have : ¬ (IntKind.i64.max < ((a.size + c.size : Nat) : Int)) := by
     simp only [IntKind.max, IntKind.signed, IntKind.bits, if_true]
     omega
    simp only [binOp, Op.stringOp, gt_iff_lt, this, if_false]
    rfl
   ·rename_i k n k' m _
    obtain ⟨rfl, hm, hK⟩ := hK
    have h2 := repI h1
    have h3 := repI h1y
    refine finI _ _ ?_ (by rw [h2, h3]; exact eqGuard_int _ _ _ _ _ _ _ _) hK
    rw [h2, h3]
    simp [binOp, Op.intDiv, hm]
   ·rename_i k n k' m _
    obtain ⟨rfl, hm, hK⟩ := hK
    have h2 := repI h1
    have h3 := repI h1y
    refine finI _ _ ?_ (by rw [h2, h3]; exact eqGuard_int _ _ _ _ _ _ _ _) hK
    rw [h2, h3]
    simp [binOp, Op.intDiv, hm]
   ·rename_i k n k' m _
    obtain ⟨hm, hK⟩ := hK
    have h2 := repI h1
    have h3 := repI h1y
    refine finI _ _ ?_ (by rw [h2, h3]; exact eqGuard_int _ _ _ _ _ _ _ _) hK
    rw [h2, h3]
    have : ¬ m < 0 := by omega
    simp [binOp, Op.shift, this]
   ·rename_i k n k' m _
    obtain ⟨hm, hK⟩ := hK
    have h2 := repI h1
    have h3 := repI h1y
    refine finI _ _ ?_ (by rw [h2, h3]; exact eqGuard_int _ _ _ _ _ _ _ _) hK
    rw [h2, h3]
    have : ¬ m < 0 := by omega
    simp [binOp, Op.shift, this]
   ·rename_i k n k' m _
    obtain ⟨rfl, hK⟩ := hK
    have h2 := repI h1
    have h3 := repI h1y
    refine finI _ _ ?_ (by rw [h2, h3]; exact eqGuard_int _ _ _ _ _ _ _ _) hK
    rw [h2, h3]
    simp only [binOp, ne_eq, not_true_eq_false, if_false, Op.intBits]
    rfl
   ·rename_i k n k' m _
    obtain ⟨rfl, hK⟩ := hK
    have h2 := repI h1
    have h3 := repI h1y
    refine finI _ _ ?_ (by rw [h2, h3]; exact eqGuard_int _ _ _ _ _ _ _ _) hK
    rw [h2, h3]
    simp only [binOp, ne_eq, not_true_eq_false, if_false, Op.intBits]
    rfl
   ·rename_i k n k' m _
    obtain ⟨rfl, hK⟩ := hK
    have h2 := repI h1
    have h3 := repI h1y
    refine finI _ _ ?_ (by rw [h2, h3]; exact eqGuard_int _ _ _ _ _ _ _ _) hK
    rw [h2, h3]
    simp only [binOp, ne_eq, not_true_eq_false, if_false, Op.intBits]
    rfl
   ·exact hK.elim
 ·exact hK.elim
end
end Go.K
end
section
namespace Go.K
open Go
section
variable {ι : Nat → Option Value} {imm : Nat → Prop} {h : Heap} {w : World} {K : Out → Prop}
variable {P : Program} {E : Env} {draw : Bool} {ev : Operand → V} {ρ : Operand → Value} {o : Oper} {id : Nat}
theorem args_one {args : Array Operand} {x : V} (h : args.toList.map ev = [x]) : ∃ a, args = #[a] ∧ ev a = x := by
 obtain ⟨l⟩ := args
 cases l with
 | nil => cases h
 | cons a r =>
  cases r with
  | nil => cases h; exact ⟨a, rfl, rfl⟩
  | cons b r => cases h
theorem args_two {args : Array Operand} {x y : V} (h : args.toList.map ev = [x, y]) : ∃ a b, args = #[a, b] ∧ ev a = x ∧ ev b = y := by
 obtain ⟨l⟩ := args
 cases l with
 | nil => cases h
 | cons a r =>
  cases r with
  | nil => cases h
  | cons b r =>
   cases r with
   | nil => cases h; exact ⟨a, b, rfl, rfl, rfl⟩
   | cons c r => cases h
theorem types_one {ts : Array TypeId} {x : TypeId} (h : ts.toList = [x]) : ts = #[x] := by
 obtain ⟨l⟩ := ts; cases h; rfl
theorem types_two {ts : Array TypeId} {x y : TypeId} (h : ts.toList = [x, y]) : ts = #[x, y] := by
 obtain ⟨l⟩ := ts; cases h; rfl
theorem own_form (I : Inv ι imm h w) {j : Nat} {l : Bool} {e z : Nat} {xs : List D} {sz : Nat} {v : Value} (hj : h j = some (.row l e z xs)) (hr : RepV ι imm w (.own j sz) v) :
  ι j = some v ∧ BlkRep ι imm w (.row l e z xs) v ∧ ((v = .slice none 0 0 ∧ xs = []) ∨ ∃ g cap, v = .slice (some ⟨g, 0, none⟩) xs.length cap ∧ xs.length ≤ cap) := by
 obtain ⟨v', h4, h6⟩ := I.blk j _ hj
 obtain ⟨h7, h8⟩ := hr
 rw [h7] at h4; cases h4
 refine ⟨h7, h6, ?_⟩
 rcases h8 with rfl | ⟨g, n, cap, rfl⟩
 ·left
  refine ⟨rfl, List.eq_nil_of_length_eq_zero ?_⟩
  cases l with
  | true =>
   obtain ⟨cells, ho', _⟩ := h6
   rcases ho'.2 with ⟨_, hn⟩ | ⟨g, cap, cur, c, _⟩
   ·exact hn
   ·cases c
  | false => exact h6.1.len.symm
 ·right
  cases l with
  | true =>
   obtain ⟨cells, ho', _⟩ := h6
   rcases ho'.2 with ⟨c, _⟩ | ⟨g', cap', cur, c, _, _, hc, _⟩
   ·cases c
   ·cases c; exact ⟨g, cap, rfl, hc⟩
  | false =>
   have hn := h6.1.len
   subst hn
   refine ⟨g, cap, rfl, ?_⟩
   cases h6.1 with
   | sl0 => simp
   | sl => assumption
variable (I : Inv ι imm h w) (tt : TTok P E.tt) (he : ∀ x, RepV ι imm w (ev x) (ρ x))
include I tt he
theorem op_len {args : Array Operand} {ts : Array TypeId} (ho : o.op = .call { callee := .builtin .len, args := args, argTypes := ts }) (hK : opR Ω E draw ev h o.op id K) : Done ι imm h w K ((execOp ρ o).run P w) := by
 rw [ho] at hK
 simp only [opR, w_slen, w_sget, w_ssub, w_sset, w_srep, w_scat, BrG_eq, DK_eq, w_ci, w_iand, w_ior, w_ixor, w_ishl, w_ishr, w_wrap, w_tmod, w_lt, w_le, w_eq, w_ne, w_ile, w_ilt, w_tn, w_nadd, w_nsub, w_nlt, w_leb, w_room, w_imax, w_imin, w_bget, w_bext, w_bcat, w_bsz, w_beqs] at hK
 split at hK
 ·rename_i x T _ ha hT
  obtain ⟨a, rfl, rfl⟩ := args_one ha
  obtain rfl := types_one hT
  have h1 := he a
  have fin : ∀ n : Int, (Builtin.len_ #[T] o.type #[ρ a]).run P w = .ok (goInt n) w → (∃ rd, K { v := .d (.i .i64 n), rd := rd }) → Done ι imm h w K ((execOp ρ o).run P w) := fun n hr ⟨rd, hk⟩ => by
   refine Done.val (v := goInt n) (rd := rd) I ?_ hk (RepC.i _ _)
   simp [execOp, ho, resolve, invoke, builtin, hr]
  split at hK
  ·rename_i xs ht hx
   have hu := (tt _ _ ht).und
   rw [hx] at h1
   obtain ⟨b, c, h2, _⟩ := repSl h1
   refine fin _ ?_ ⟨[], hK⟩
   rw [h2]; simp [Builtin.len_, run_underlying hu]
  ·rename_i ht hx
   have hu := (tt _ _ ht).und
   rw [hx] at h1
   have h2 : ρ a = .slice none 0 0 := h1
   refine fin _ ?_ ⟨[], hK⟩
   rw [h2]; simp [Builtin.len_, run_underlying hu]
  ·rename_i j sz ht hx
   have hu := (tt _ _ ht).und
   rw [hx] at h1
   split at hK
   ·rename_i l e z xs hj
    obtain ⟨_, _, h2⟩ := own_form I hj h1
    refine fin _ ?_ ⟨[j], hK⟩
    rcases h2 with ⟨h2, rfl⟩ | ⟨g, cap, h2, _⟩
    ·rw [h2]; simp [Builtin.len_, run_underlying hu]
    ·rw [h2]; simp [Builtin.len_, run_underlying hu]
   ·exact hK.elim
  ·rename_i j sz off len ht hx
   have hu := (tt _ _ ht).und
   rw [hx] at h1
   refine fin _ ?_ ⟨[], hK⟩
   rcases h1 with ⟨g, n, cap, c, _, h2, _⟩ | ⟨_, rfl, base, h2⟩
   ·rw [h2]; simp [Builtin.len_, run_underlying hu]
   ·rw [h2]; simp [Builtin.len_, run_underlying hu]
  ·rename_i b ht hx
   have hu := (tt _ _ ht).und
   rw [hx] at h1
   have h2 := repS h1
   refine fin _ ?_ ⟨[], hK⟩
   rw [h2]; simp [Builtin.len_, run_underlying hu]
  ·rename_i n e ht
   have hu := (tt _ _ ht).und
   refine fin _ ?_ ⟨[], hK⟩
   simp [Builtin.len_, run_underlying hu]
  ·exact hK.elim
 ·rename_i hb _ _; cases hb
 ·exact hK.elim
theorem op_makeSlice {T : TypeId} {l c : Operand} (ho : o.op = .makeSlice T l c) (hK : opR Ω E draw ev h o.op id K) : Done ι imm h w K ((execOp ρ o).run P w) := by
 rw [ho] at hK
 have h1l := he l
 have h1c := he c
 simp only [opR, w_slen, w_sget, w_ssub, w_sset, w_srep, w_scat, BrG_eq, DK_eq, w_ci, w_iand, w_ior, w_ixor, w_ishl, w_ishr, w_wrap, w_tmod, w_lt, w_le, w_eq, w_ne, w_ile, w_ilt, w_tn, w_nadd, w_nsub, w_nlt, w_leb, w_room, w_imax, w_imin, w_bget, w_bext, w_bcat, w_bsz, w_beqs] at hK
 split at hK
 ·rename_i s1 s2 s3 e ht
  have hT := tt _ _ ht
  split at hK
  ·rename_i size bytes z und hte
   have hE := tt _ _ hte
   split at hK
   ·rename_i k n k' m hl hc
    rw [hl] at h1l
    rw [hc] at h1c
    have h2 := repI h1l
    have h3 := repI h1c
    split at hK
    ·rename_i x hx
     obtain ⟨hid, hn, hnm, hb, h63, hpos, hxs, hK⟩ := hK
     obtain ⟨info, i1, i2, i3, i4⟩ := hE.ok
     have hzs := (hE.zero z rfl).1
     have hr := run_make (P := P) w T e info z hT.und i1 i4 k k' n m hn hnm (by rw [i3]; exact hb) (by omega)
     have hzrep : RepD imm w x z := toD_rep (h := h) (h1 := h) I (fun i hi => by
      exfalso
      have : idsOf (constV z) = [] := by
       have one : ∀ y, ids1 (const1 y) = [] := fun y => by
        unfold const1; split <;> rfl
       unfold constV
       split
       ·split
        ·simp only [idsOf]
         rename_i cs _
         have : ∀ l : List Value, (l.map const1).flatMap ids1 = [] := fun l => by
          induction l with
          | nil => rfl
          | cons a r ih => simp only [List.map_cons, List.flatMap_cons, one, ih, List.append_nil]
         exact this _
        ·rfl
       ·rename_i v hv
        have h0 := one z
        generalize hq : const1 z = q at h0
        cases q with
        | agg cs => exfalso; unfold const1 at hq; split at hq <;> cases hq
        | _ => exact h0
      rw [this] at hi; cases hi) (constV_rep ι imm w z) hx
     obtain ⟨c1, c2⟩ := repD_cells hzrep
     have hsz : info.size = size := i2
     have hcells : ∀ i j, j < size → i * size + j < m.toNat * size → (madeCells z.cells (m.toNat * info.size)).getD (i * size + j) undef = z.cells.getD j undef := fun i j hj hk => by
      have e1 : (i * size + j) % z.cells.size = j := by
       rw [hzs]
       show (i * size + j) % size = j
       rw [Nat.mul_comm, Nat.mul_add_mod, Nat.mod_eq_of_lt hj]
      have hlt : j < z.cells.size := by rw [hzs]; exact hj
      simp only [madeCells, hsz, Array.getD_eq_getD_getElem?, Array.getElem?_map]
      have : (Array.range (m.toNat * size))[i * size + j]? = some (i * size + j) := by simp [hk]
      rw [this]
      simp only [Option.map_some, Option.getD_some, e1]
      rw [getElem!_pos z.cells j hlt]
      simp [hlt]
     have hlen : (List.replicate n.toNat x).length = n.toNat := by simp
     have st := I.fresh hid (.slice (some ⟨w.heap.size, 0, none⟩) n.toNat m.toNat) (.row true e size (List.replicate n.toNat x)) (w' := w.alloc (.cells (madeCells z.cells (m.toNat * info.size)) e)) (by simp)
      (fun g hg => heap_alloc_old w _ g hg) rfl rfl rfl (fun g hg => by cases hg; exact Nat.le_refl _) ?_
     ·refine ⟨_, _, _, _, imm, .inl ?_, hK, st.2, st.1, ⟨upd_same _ _ _, .inr ⟨_, _, _, rfl⟩⟩⟩
      simp [execOp, ho, h2, h3, hr]
     ·have hmn : n.toNat * size ≤ m.toNat * size := Nat.mul_le_mul_right _ (by omega)
      refine ⟨(madeCells z.cells (m.toNat * info.size)).toList.take (n.toNat * size), ⟨?_, .inr ⟨w.heap.size, m.toNat, madeCells z.cells (m.toNat * info.size), ?_, Nat.zero_le _, heap_alloc_new w _, ?_, ?_, ?_, ?_⟩⟩, ?_, ?_⟩
      ·rw [List.length_take, Array.length_toList, size_madeCells, hlen, hsz]; omega
      ·rw [hlen]
      ·rw [hlen]; omega
      ·simp only [maxLen]; omega
      ·rw [size_madeCells, hsz]; exact Nat.le_refl _
      ·rw [hlen]
      ·intro y hy
       rw [List.eq_of_mem_replicate hy]; exact hxs
      ·intro i j hi hj
       rw [hlen] at hi
       have e1 : (List.replicate n.toNat x).getD i .np = x := by simp [List.getD, hi]
       have hk : i * size + j < n.toNat * size := by
        have := Nat.mul_le_mul_right size (Nat.succ_le_of_lt hi); rw [Nat.succ_mul] at this; omega
       have e2 : ((madeCells z.cells (m.toNat * info.size)).toList.take (n.toNat * size)).getD (i * size + j) undef = (madeCells z.cells (m.toNat * info.size)).getD (i * size + j) undef := by
        rw [List.getD_eq_getElem?_getD, List.getElem?_take, if_pos hk, Array.getD_eq_getD_getElem?, Array.getElem?_toList]
       rw [e1, e2, hcells i j hj (by omega)]
       exact (c2 j (by omega)).mono fun g hg => ⟨hg, heap_alloc_old w _ g (I.lt g hg)⟩
    ·exact hK.elim
   ·exact hK.elim
  ·exact hK.elim
 ·exact hK.elim
theorem op_max {args : Array Operand} {ts : Array TypeId} (ho : o.op = .call { callee := .builtin .max, args := args, argTypes := ts }) (hK : opR Ω E draw ev h o.op id K) : Done ι imm h w K ((execOp ρ o).run P w) := by
 rw [ho] at hK
 simp only [opR] at hK
 split at hK
 ·rename_i k n k' m ha
  obtain ⟨a, b, rfl, h1, h2⟩ := args_two ha
  obtain ⟨rfl, hK⟩ := hK
  have r1 := he a
  have r2 := he b
  rw [h1] at r1
  rw [h2] at r2
  have e1 := repI r1
  have e2 := repI r2
  refine Done.val (v := .int k (Ω .imax n m)) I ?_ hK (RepC.i _ _)
  simp [execOp, ho, resolve, invoke, builtin, Builtin.max_, Builtin.max2, e1, e2, w_imax]
 ·exact hK.elim
theorem op_min {args : Array Operand} {ts : Array TypeId} (ho : o.op = .call { callee := .builtin .min, args := args, argTypes := ts }) (hK : opR Ω E draw ev h o.op id K) : Done ι imm h w K ((execOp ρ o).run P w) := by
 rw [ho] at hK
 simp only [opR] at hK
 split at hK
 ·rename_i k n k' m ha
  obtain ⟨a, b, rfl, h1, h2⟩ := args_two ha
  obtain ⟨rfl, hK⟩ := hK
  have r1 := he a
  have r2 := he b
  rw [h1] at r1
  rw [h2] at r2
  have e1 := repI r1
  have e2 := repI r2
  refine Done.val (v := .int k (Ω .imin n m)) I ?_ hK (RepC.i _ _)
  simp [execOp, ho, resolve, invoke, builtin, Builtin.min_, Builtin.min2, e1, e2, w_imin]
 ·exact hK.elim
end
end Go.K
end
