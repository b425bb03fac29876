/-
  Parts of the proof, joined by a program of this work: KOps2, KOps3, KOps4, KOps5, KOps6, KOps7, KOps8, KOps9, KCall, KOp, KSim.
-/
import Derived.Test.YtbemciakckdjlaaLa
import Derived.Laws.Cover3
import Derived.Laws.IdiomCopy
import Derived.Laws.CopyRow
section
/-
  K, part 6: each operation does what 'opR' says, continued.
-/
namespace Go.K
open Go
set_option linter.unusedSectionVars false
set_option linter.unusedVariables false
set_option linter.unusedSimpArgs false

/-- a row's cells, one element of which is another -/
theorem row_set {imm : Nat → Prop} {w : World} {xs : List D} {sz k : Nat} {cur : Array Value} {y : D} {vs : Array Value} (hu : ∀ x, x ∈ xs → x.cells.length = sz) (hk : k < xs.length) (hy : y.cells.length = sz)
    (hfit : xs.length * sz ≤ cur.size) (hvs : vs.size = sz) (hc : ∀ i j, i < xs.length → j < sz → RepC imm w ((xs.getD i .np).cells.getD j .np) (cur.getD (i * sz + j) undef))
    (hv : ∀ j, j < sz → RepC imm w (y.cells.getD j .np) (vs.getD j undef)) :
    ∀ i j, i < (xs.set k y).length → j < sz → RepC imm w (((xs.set k y).getD i .np).cells.getD j .np) ((cur.toList.take (k * sz) ++ vs.toList ++ cur.toList.drop (k * sz + sz)).toArray.getD (i * sz + j) undef) := by
  intro i j hi hj
  have hi' : i < xs.length := by simpa using hi
  have hmul : ∀ a b, a < b → b ≤ xs.length → a * sz + sz ≤ b * sz := fun a b h _ => by
    have := Nat.mul_le_mul_right sz (Nat.succ_le_of_lt h); rw [Nat.succ_mul] at this; exact this
  have hkk := hmul k xs.length hk (Nat.le_refl _)
  have hii := hmul i xs.length hi' (Nat.le_refl _)
  have hlen : (cur.toList.take (k * sz)).length = k * sz := by simp; omega
  have hlen2 : vs.toList.length = sz := by simp [hvs]
  have hget : ∀ m, (cur.toList.take (k * sz) ++ vs.toList ++ cur.toList.drop (k * sz + sz)).toArray.getD m undef =
      if m < k * sz then cur.getD m undef else if m < k * sz + sz then vs.getD (m - k * sz) undef else cur.getD m undef := by
    intro m
    simp only [Array.getD_eq_getD_getElem?, List.getElem?_toArray, List.getElem?_append, hlen, List.length_append, hlen2, List.getElem?_take, List.getElem?_drop]
    by_cases h1 : m < k * sz
    · have h2 : m < k * sz + sz := by omega
      simp [h1, h2]
    · by_cases h2 : m < k * sz + sz
      · simp [h1, h2]
      · have e : k * sz + sz + (m - (k * sz + sz)) = m := by omega
        simp [h1, h2, e]
  rw [hget]
  by_cases hik : i = k
  · subst hik
    have e : (xs.set i y).getD i .np = y := by simp [List.getD, hi']
    rw [e, if_neg (by omega), if_pos (by omega), show i * sz + j - i * sz = j by omega]
    exact hv j hj
  · have e : (xs.set k y).getD i .np = xs.getD i .np := by simp [List.getD, List.getElem?_set_ne (Ne.symm hik)]
    rw [e]
    have : ¬ (k * sz ≤ i * sz + j ∧ i * sz + j < k * sz + sz) := by
      intro ⟨a, b⟩
      rcases Nat.lt_or_ge i k with h | h
      · have := hmul i k h (by omega); omega
      · have := hmul k i (by omega) (by omega); omega
    by_cases h1 : i * sz + j < k * sz
    · rw [if_pos h1]; exact hc i j hi' hj
    · rw [if_neg h1, if_neg (by omega)]; exact hc i j hi' hj

/-- an element of a row is put in the place of another -/
theorem store_elem {ι : Nat → Option Value} {imm imm1 : Nat → Prop} {h h1 : Heap} {w : World} (I1 : Inv ι imm1 h1 w) (E1 : Evo ι imm h w ι imm1 h1 w) {j k z g cap : Nat} {e : TypeId} {xs : List D} {cur vs new : Array Value} {Z : D}
    (hj1 : h1 j = some (.row true e z xs)) (h2' : ι j = some (.slice (some ⟨g, 0, none⟩) xs.length cap)) (h6 : ∀ x, x ∈ xs → x.cells.length = z) (hk : k < xs.length)
    (h8 : w.heap[g]? = some (.cells cur e (0, 0))) (h9 : xs.length ≤ cap) (hcm : cap ≤ maxLen) (h10 : cap * z ≤ cur.size) (hcs : xs.length * z ≤ cur.size)
    (hcell : ∀ i j, i < xs.length → j < z → RepC imm1 w ((xs.getD i .np).cells.getD j .np) (cur.getD (i * z + j) undef))
    (hZ : Z.cells.length = z) (hvs : vs.size = z) (hv : ∀ m, m < z → RepC imm1 w (Z.cells.getD m .np) (vs.getD m undef))
    (hnew : new = (cur.toList.take (k * z) ++ vs.toList ++ cur.toList.drop (k * z + z)).toArray) :
    Inv ι imm1 (upd h1 j (some (.row true e z (xs.set k Z)))) (w.setRow g new) ∧ Evo ι imm h w ι imm1 (upd h1 j (some (.row true e z (xs.set k Z)))) (w.setRow g new) := by
  have hmul : k * z + z ≤ xs.length * z := by
    have := Nat.mul_le_mul_right z (Nat.succ_le_of_lt hk); rw [Nat.succ_mul] at this; exact this
  subst hnew
  have hmono : ∀ g', imm1 g' → imm1 g' ∧ (w.setRow g (cur.toList.take (k * z) ++ vs.toList ++ cur.toList.drop (k * z + z)).toArray).heap[g']? = w.heap[g']? := fun g' hg' =>
    ⟨hg', setRow_other w g g' _ (fun e' => by subst e'; exact I1.own g' ⟨j, _, _, hj1, rfl, h2', rfl⟩ hg')⟩
  have st := I1.wrote hj1 rfl h2' (B := .row true e z (xs.set k Z)) (w' := w.setRow g (cur.toList.take (k * z) ++ vs.toList ++ cur.toList.drop (k * z + z)).toArray) (by simp)
    (fun g' hg' => setRow_other w g g' _ (fun e' => by subst e'; exact hg' rfl)) rfl rfl rfl ?_
  · exact ⟨st.1, E1.trans st.2⟩
  · have hl : (xs.set k Z).length = xs.length := by simp
    have hnew := row_set (imm := imm1) (w := w) h6 hk hZ hcs (vs := vs) hvs hcell hv
    refine ⟨((cur.toList.take (k * z) ++ vs.toList ++ cur.toList.drop (k * z + z)).take (xs.length * z)), ⟨?_, .inr ⟨g, cap, _, ?_, Nat.zero_le _, setRow_heap w g cur _ e _ h8, ?_, hcm, ?_, ?_⟩⟩, ?_, ?_⟩
    · simp; omega
    · rw [hl]
    · rw [hl]; exact h9
    · simp; omega
    · simp
    · intro x hx
      rcases List.mem_or_eq_of_mem_set hx with hx | hx
      · exact h6 x hx
      · subst hx; omega
    · intro a b ha hb
      have := (hnew a b ha hb).mono hmono
      have hm : a * z + b < xs.length * z := by
        rw [hl] at ha
        have := Nat.mul_le_mul_right z (Nat.succ_le_of_lt ha); rw [Nat.succ_mul] at this; omega
      have e3 : ((cur.toList.take (k * z) ++ vs.toList ++ cur.toList.drop (k * z + z)).take (xs.length * z)).getD (a * z + b) undef = (cur.toList.take (k * z) ++ vs.toList ++ cur.toList.drop (k * z + z)).toArray.getD (a * z + b) undef := by
        rw [List.getD_eq_getElem?_getD, List.getElem?_take, if_pos hm, Array.getD_eq_getD_getElem?, List.getElem?_toArray]
      rw [e3]
      exact this

/-- a part of an element's cells in the place of others -/
theorem part_cells (cur c : List Value) (a off s z : Nat) (h1 : off + s ≤ z) (h2 : a + z ≤ cur.length) (h3 : c.length = s) :
    cur.take (a + off) ++ c ++ cur.drop (a + off + s) = cur.take a ++ ((cur.drop a).take off ++ c ++ (cur.drop (a + off + s)).take (z - off - s)) ++ cur.drop (a + z) := by
  have e1 : cur.take (a + off) = cur.take a ++ (cur.drop a).take off := List.take_add ..
  have e2 : cur.drop (a + z) = (cur.drop (a + off + s)).drop (z - off - s) := by rw [List.drop_drop]; congr 1; omega
  rw [e1, e2]
  simp only [List.append_assoc, List.take_append_drop]

section
variable {ι : Nat → Option Value} {imm : Nat → Prop} {h : Heap} {w : World} {K : Out → Prop}
variable {P : Program} {E : Env} {draw : Bool} {ev : Operand → V} {ρ : Operand → Value} {o : Oper} {id : Nat}

/-- the representation of data by its cells -/
theorem repD_cells {x : D} {v : Value} (hr : RepD imm w x v) : v.cells.size = x.cells.length ∧ ∀ j, j < x.cells.length → RepC imm w (x.cells.getD j .np) (v.cells.getD j undef) := by
  have h0 : RepV (fun _ => none) imm w (.d x) v := hr
  obtain ⟨h1, h2⟩ := cells_rep (l := x.cells.map V.d) h0 rfl
  refine ⟨by simpa using h1, fun j hj => ?_⟩
  have := (h2 j (by simpa using hj)).1
  have e : (x.cells.map V.d).getD j .junk = .d (x.cells.getD j .np) := by simp [List.getD, hj]
  rw [e] at this
  exact this

variable (I : Inv ι imm h w) (tt : TTok P E.tt) (he : ∀ x, RepV ι imm w (ev x) (ρ x))
include I tt he

theorem op_store {T : TypeId} {x y : Operand} (ho : o.op = .store T x y) (hK : opR Ω E draw ev h o.op id K) : Done ι imm h w K ((execOp ρ o).run P w) := by
  rw [ho] at hK
  have h1 := he x
  simp only [opR, w_slen, w_sget, w_ssub, w_sset, w_srep, w_scat, BrG_eq, DK_eq, w_ci, w_iand, w_ior, w_ixor, w_ishl, w_ishr, w_wrap, w_tmod, w_lt, w_le, w_eq, w_ne, w_ile, w_ilt, w_tn, w_nadd, w_nsub, w_nlt, w_leb, w_room, w_imax, w_imin] at hK
  split at hK
  · rename_i i j off ht hx
    have hT := tt _ _ ht
    rw [hx] at h1
    obtain ⟨g, h2, h3⟩ := h1
    split at hK
    · rename_i cs hj
      split at hK
      · rename_i l hl
        obtain ⟨hlen, hfit, hK⟩ := hK
        obtain ⟨v', h4, g', vs, T', h5, h6, h7, h8⟩ := I.blk j _ hj
        have hv' := h4
        rw [h2] at h4; cases h4; cases h5
        obtain ⟨c1, c2⟩ := cells_rep (he y) hl
        have hs : (ρ y).cells.size = i.size := by omega
        have hr := run_storeVar_at hT w (off := off) h6 hs (by omega) (fun m hm => (c2 m (by omega)).2)
        have hmono : ∀ g', imm g' → imm g' ∧ (w.setRow g (vs.toList.take off ++ (ρ y).cells.toList ++ vs.toList.drop (off + i.size)).toArray).heap[g']? = w.heap[g']? := fun g' hg' =>
          ⟨hg', setRow_other w g g' _ (fun e => by subst e; exact I.own g' ⟨j, _, _, hj, rfl, h2, rfl⟩ hg')⟩
        have st := I.wrote hj rfl h2 (B := .var (cs.take off ++ l ++ cs.drop (off + i.size))) (w' := w.setRow g (vs.toList.take off ++ (ρ y).cells.toList ++ vs.toList.drop (off + i.size)).toArray) (by simp)
          (fun g' hg' => setRow_other w g g' _ (fun e => by subst e; exact hg' rfl)) rfl rfl rfl ?_
        · refine ⟨_, undef, _, ι, imm, .inr ⟨?_, rfl⟩, hK, st.2, st.1, trivial⟩
          simp only [execOp, ho, h3, Instr.storeAt, Instr.sureAddr, Sem.run_bind, Sem.run_pure, Result.andThen_ok, hr]
        · refine ⟨g, _, T', rfl, setRow_heap w g vs _ T' _ h6, by simp; omega, fun m hm => ?_⟩
          have l1 : (cs.take off).length = off := by simp; omega
          have l2 : (vs.toList.take off).length = off := by simp; omega
          have l3 : (ρ y).cells.toList.length = l.length := by simpa using c1
          have ea : (cs.take off ++ l ++ cs.drop (off + i.size)).getD m .junk = if m < off then cs.getD m .junk else if m < off + i.size then l.getD (m - off) .junk else cs.getD m .junk := by
            simp only [List.getD_eq_getElem?_getD, List.getElem?_append, l1, List.length_append, hlen, List.getElem?_take, List.getElem?_drop]
            by_cases a : m < off
            · have : m < off + i.size := by omega
              simp [a, this]
            · by_cases b : m < off + i.size
              · simp [a, b]
              · have e : off + i.size + (m - (off + i.size)) = m := by omega
                simp [a, b, e]
          have eb : (vs.toList.take off ++ (ρ y).cells.toList ++ vs.toList.drop (off + i.size)).toArray.getD m undef = if m < off then vs.getD m undef else if m < off + i.size then (ρ y).cells.getD (m - off) undef else vs.getD m undef := by
            simp only [Array.getD_eq_getD_getElem?, List.getElem?_toArray, List.getElem?_append, l2, List.length_append, l3, hlen, List.getElem?_take, List.getElem?_drop]
            by_cases a : m < off
            · have : m < off + i.size := by omega
              simp [a, this]
            · by_cases b : m < off + i.size
              · simp [a, b]
              · have e : off + i.size + (m - (off + i.size)) = m := by omega
                simp [a, b, e]
          have hm' : m < cs.length := by simp at hm; omega
          rw [ea, eb]
          by_cases a : m < off
          · rw [if_pos a, if_pos a]; exact ⟨(h8 m hm').1.mono (fun _ _ e => e) hmono, (h8 m hm').2⟩
          · rw [if_neg a, if_neg a]
            by_cases b : m < off + i.size
            · rw [if_pos b, if_pos b]; exact ⟨(c2 (m - off) (by omega)).1.mono (fun _ _ e => e) hmono, (c2 (m - off) (by omega)).2⟩
            · rw [if_neg b, if_neg b]; exact ⟨(h8 m hm').1.mono (fun _ _ e => e) hmono, (h8 m hm').2⟩
      · exact hK.elim
    · exact hK.elim
  · rename_i i j sz k off ht hx
    have hT := tt _ _ ht
    rw [hx] at h1
    obtain ⟨g, n, cap, h2, h3⟩ := h1
    split at hK
    · rename_i e z xs hj
      split at hK
      · rename_i y' hy
        obtain ⟨rfl, hnj, hk, hlen, hK⟩ := hK
        obtain ⟨imm1, I1, E1⟩ := Inv.freezeL (idsOf (ev y)) I
        have hrep := toD_rep I1 (fun i hi l e z xs hx => freezeL_done h _ i hi l e z xs hx) ((he y).evo I E1) hy
        obtain ⟨c1, c2⟩ := repD_cells hrep
        have hj1 : ups h (freezeL h (idsOf (ev y))) j = some (.row true e z xs) := (freezeL_other h _ j hnj).trans hj
        obtain ⟨v', h4, cells, ho', h6, h7⟩ := I1.blk j _ hj1
        have h2' := E1.ids _ _ h2
        rw [h2'] at h4; cases h4
        rcases ho'.2 with ⟨c, _⟩ | ⟨g', cap', cur, c, hb0, h8, h9, hcm, h10, h11⟩
        · cases c
        · cases c
          have hcs : xs.length * z ≤ cur.size := Nat.le_trans (Nat.mul_le_mul_right _ h9) h10
          have hmul : k * z + z ≤ xs.length * z := by
            have := Nat.mul_le_mul_right z (Nat.succ_le_of_lt hk); rw [Nat.succ_mul] at this; exact this
          have hcell : ∀ i j, i < xs.length → j < z → RepC imm1 w ((xs.getD i .np).cells.getD j .np) (cur.getD (i * z + j) undef) := fun i j a b => by
            have := h7 i j a b
            have hm : i * z + j < xs.length * z := by
              have := Nat.mul_le_mul_right z (Nat.succ_le_of_lt a); rw [Nat.succ_mul] at this; omega
            have e2 : cells.getD (i * z + j) undef = cur.getD (i * z + j) undef := by
              rw [← h11]
              have h13 : i * z + j < cur.size := by omega
              simp [List.getD, hm, Array.getD, h13]
            rw [← e2]; exact this
          have hs : (ρ y).cells.size = i.size := by omega
          split at hK
          · rename_i hc
            obtain ⟨rfl, hsz⟩ := hc
            have hr := run_storeVar_at hT w (off := k * z + 0) h8 hs (by omega) (fun m hm => (c2 m (by omega)).one)
            rw [Nat.add_zero, hsz] at hr
            obtain ⟨s1, s2⟩ := store_elem I1 E1 hj1 h2' h6 hk h8 h9 hcm h10 hcs hcell (Z := y') (vs := (ρ y).cells) (by omega) (by omega) (fun m hm => c2 m (by omega)) rfl
            refine ⟨_, undef, _, ι, imm1, .inr ⟨?_, rfl⟩, hK, s2, s1, trivial⟩
            simp only [execOp, ho, h3, Instr.storeAt, Instr.sureAddr, Sem.run_bind, Sem.run_pure, Result.andThen_ok, Nat.add_zero, hr]
          · -- a part of an element
            obtain ⟨hfit, x0, hx0, hK⟩ := hK
            have hr := run_storeVar_at hT w (off := k * z + off) h8 hs (by omega) (fun m hm => (c2 m (by omega)).one)
            have hxk : xs.getD k .np = x0 := by simp [List.getD, hx0]
            have hx0z : x0.cells.length = z := h6 x0 (List.mem_of_getElem? hx0)
            have hpc := part_cells cur.toList (ρ y).cells.toList (k * z) off i.size z hfit (by simpa using (by omega : k * z + z ≤ cur.size)) (by simpa using hs)
            have hcl : (ρ y).cells.toList.length = i.size := by simpa using hs
            have hcul : cur.toList.length = cur.size := by simp
            have hvv : ∀ m, m < z → RepC imm1 w ((D.agg (x0.cells.take off ++ y'.cells ++ x0.cells.drop (off + i.size))).cells.getD m .np)
                (((cur.toList.drop (k * z)).take off ++ (ρ y).cells.toList ++ (cur.toList.drop (k * z + off + i.size)).take (z - off - i.size)).toArray.getD m undef) := by
              intro m hm
              have l1 : (x0.cells.take off).length = off := by rw [List.length_take]; omega
              have l2 : ((cur.toList.drop (k * z)).take off).length = off := by rw [List.length_take, List.length_drop]; omega
              have h0 := hcell k m hk hm
              rw [hxk] at h0
              show RepC imm1 w ((x0.cells.take off ++ y'.cells ++ x0.cells.drop (off + i.size)).getD m .np) _
              simp only [Array.getD_eq_getD_getElem?, List.getElem?_toArray, List.getD_eq_getElem?_getD, List.getElem?_append, l1, l2, List.length_append, hlen, hcl, List.getElem?_take, List.getElem?_drop] at h0 ⊢
              by_cases a : m < off
              · have : m < off + i.size := by omega
                simpa [a, this, Array.getD_eq_getD_getElem?] using h0
              · by_cases b : m < off + i.size
                · have := c2 (m - off) (by omega)
                  simpa [a, b, Array.getD_eq_getD_getElem?] using this
                · have e : off + i.size + (m - (off + i.size)) = m := by omega
                  have e2 : k * z + off + i.size + (m - (off + i.size)) = k * z + m := by omega
                  have b2 : m - (off + i.size) < z - off - i.size := by omega
                  simpa [a, b, e, e2, b2, Array.getD_eq_getD_getElem?] using h0
            obtain ⟨s1, s2⟩ := store_elem I1 E1 hj1 h2' h6 hk h8 h9 hcm h10 hcs hcell (by show (x0.cells.take off ++ y'.cells ++ x0.cells.drop (off + i.size)).length = z; simp only [List.length_append, List.length_take, List.length_drop]; omega) (by simp only [List.size_toArray, List.length_append, List.length_take, List.length_drop, hcul, hcl]; omega) hvv rfl
            simp only [List.toList_toArray] at s1 s2
            rw [← hpc] at s1 s2
            refine ⟨_, undef, _, ι, imm1, .inr ⟨?_, rfl⟩, hK, s2, s1, trivial⟩
            simp only [execOp, ho, h3, Instr.storeAt, Instr.sureAddr, Sem.run_bind, Sem.run_pure, Result.andThen_ok, hr]
      · exact hK.elim
    · exact hK.elim
  · exact hK.elim

end
end Go.K
end
section
/-
  K, part 7: each operation does what 'opR' says, continued.
-/
namespace Go.K
open Go
set_option linter.unusedSectionVars false
set_option linter.unusedVariables false
set_option linter.unusedSimpArgs false

section
variable {ι : Nat → Option Value} {imm : Nat → Prop} {h : Heap} {w : World} {K : Out → Prop}
variable {P : Program} {E : Env} {draw : Bool} {ev : Operand → V} {ρ : Operand → Value} {o : Oper} {id : Nat}

theorem arrayLen_of {T e : TypeId} {n : Nat} (hu : P.underlying T = some (.array n e)) : P.arrayLen T = n ∧ P.elem T = e := by
  simp [Program.arrayLen, Program.elem, hu]
theorem elem_of {T e : TypeId} (hu : P.underlying T = some (.slice e)) : P.elem T = e := by
  simp [Program.elem, hu]

/-- a part of an aggregate value -/
theorem run_part {T : TypeId} {i : TInfo} (hT : TOk P T i) (w : World) {cs : Array Value} {off : Nat} (hfit : off + i.size ≤ cs.size) (h1 : isAggT i.und = false → i.size = 1) :
    (part T cs off).run P w = .ok (if isAggT i.und then .agg ((List.range i.size).map fun j => cs.getD (off + j) undef).toArray else cs.getD off undef) w := by
  unfold part
  rw [Sem.run_bind, hT.run_isAgg]
  cases ha : isAggT i.und with
  | true =>
    have e : cs.extract off (off + i.size) = ((List.range i.size).map fun j => cs.getD (off + j) undef).toArray := by
      apply Array.ext
      · simp; omega
      · intro k h1 h2
        have hk : k < i.size := by simpa using h2
        have : off + k < cs.size := by omega
        simp [Array.getD, this]
    simp [hT.run_size, e]
  | false =>
    have := h1 ha
    have hlt : off < cs.size := by omega
    have : cs[off]? = some (cs.getD off undef) := by simp [Array.getD, hlt]
    simp only [Result.andThen_ok, Bool.false_eq_true, if_false, this]
    rfl

variable (I : Inv ι imm h w) (tt : TTok P E.tt) (he : ∀ x, RepV ι imm w (ev x) (ρ x))
include I tt he

theorem op_fieldAddr {T : TypeId} {x : Operand} {f : Nat} (ho : o.op = .fieldAddr T x f) (hK : opR Ω E draw ev h o.op id K) : Done ι imm h w K ((execOp ρ o).run P w) := by
  rw [ho] at hK
  have h1 := he x
  simp only [opR, w_slen, w_sget, w_ssub, w_sset, w_srep, w_scat, BrG_eq, DK_eq, w_ci, w_iand, w_ior, w_ixor, w_ishl, w_ishr, w_wrap, w_tmod, w_lt, w_le, w_eq, w_ne, w_ile, w_ilt, w_tn, w_nadd, w_nsub, w_nlt, w_leb, w_room, w_imax, w_imin] at hK
  split at hK
  · rename_i sz by' z fs ht
    have hT := tt _ _ ht
    split at hK
    · rename_i fd hf
      split at hK
      · rename_i i hi
        have hj := tt _ _ hi
        obtain ⟨hpos, hK⟩ := hK
        split at hK
        · rename_i j off hx
          rw [hx] at h1
          obtain ⟨g, h2, h3⟩ := h1
          refine Done.val I ?_ hK ⟨g, h2, rfl⟩
          simp only [execOp, ho, h3, Sem.run_bind, Sem.run_pure, Result.andThen_ok, run_fieldAt hT rfl hf hj hpos]
        · rename_i j sz k off hx
          rw [hx] at h1
          obtain ⟨g, n, cap, h2, h3⟩ := h1
          refine Done.val I ?_ hK ⟨g, n, cap, h2, rfl⟩
          simp only [execOp, ho, h3, Sem.run_bind, Sem.run_pure, Result.andThen_ok, run_fieldAt hT rfl hf hj hpos, Nat.add_assoc]
        · rename_i y off hx
          rw [hx] at h1
          obtain ⟨g, b, cs, T', fr, h2, h3, h4, h5⟩ := h1
          refine Done.val I ?_ hK ⟨g, b, cs, T', fr, h2, h3, rfl, h5⟩
          simp only [execOp, ho, h4, Sem.run_bind, Sem.run_pure, Result.andThen_ok, run_fieldAt hT rfl hf hj hpos, Nat.add_assoc]
        · exact hK.elim
      · exact hK.elim
    · exact hK.elim
  · exact hK.elim

theorem op_field {T : TypeId} {x : Operand} {f : Nat} (ho : o.op = .field T x f) (hK : opR Ω E draw ev h o.op id K) : Done ι imm h w K ((execOp ρ o).run P w) := by
  rw [ho] at hK
  have h1 := he x
  simp only [opR, w_slen, w_sget, w_ssub, w_sset, w_srep, w_scat, BrG_eq, DK_eq, w_ci, w_iand, w_ior, w_ixor, w_ishl, w_ishr, w_wrap, w_tmod, w_lt, w_le, w_eq, w_ne, w_ile, w_ilt, w_tn, w_nadd, w_nsub, w_nlt, w_leb, w_room, w_imax, w_imin] at hK
  split at hK
  · rename_i sz by' z fs ht
    have hT := tt _ _ ht
    split at hK
    · rename_i fd hf
      split at hK
      · rename_i i hi
        have hj := tt _ _ hi
        have hu := hT.und
        split at hK
        · rename_i cs hx
          rw [hx] at h1
          obtain ⟨vs, h2, h3, h4⟩ := h1
          obtain ⟨hfit, hone, hK⟩ := hK
          have hp := run_part hj w (cs := vs) (off := fd.offset) (by omega) hone.one
          refine Done.val I ?_ hK (shape_take h3 h4 hfit hone.one)
          simp only [execOp, ho, h2, Instr.field, Sem.run_bind, run_underlying hu, Sem.run_pure, Result.andThen_ok, hf, asAgg, hp]
        · rename_i cs hx
          rw [hx] at h1
          obtain ⟨vs, h2, h3, h4⟩ := h1
          obtain ⟨hfit, hone, hK⟩ := hK
          have hp := run_part hj w (cs := vs) (off := fd.offset) (by omega) hone.one
          have := load_D (ι := ι) (x := .agg cs) (b := 0) (off := fd.offset) (n := i.size) (agg := isAggT i.und) (vs := vs) (fun j hj => by rw [Nat.zero_add]; exact h4 j hj) hfit hone.one
          rw [Nat.zero_add] at this
          refine Done.val I ?_ hK this
          simp only [execOp, ho, h2, Instr.field, Sem.run_bind, run_underlying hu, Sem.run_pure, Result.andThen_ok, hf, asAgg, hp]
        · exact hK.elim
      · exact hK.elim
    · exact hK.elim
  · exact hK.elim

theorem op_index {T : TypeId} {x y : Operand} (ho : o.op = .index T x y) (hK : opR Ω E draw ev h o.op id K) : Done ι imm h w K ((execOp ρ o).run P w) := by
  rw [ho] at hK
  have h1 := he x
  have h1y := he y
  simp only [opR, w_slen, w_sget, w_ssub, w_sset, w_srep, w_scat, BrG_eq, DK_eq, w_ci, w_iand, w_ior, w_ixor, w_ishl, w_ishr, w_wrap, w_tmod, w_lt, w_le, w_eq, w_ne, w_ile, w_ilt, w_tn, w_nadd, w_nsub, w_nlt, w_leb, w_room, w_imax, w_imin] at hK
  split at hK
  · rename_i sz by' z n e ht
    have hT := tt _ _ ht
    have hu := hT.und
    split at hK
    · rename_i i hi
      have hj := tt _ _ hi
      split at hK
      · rename_i cs kk k hx hy
        rw [hx] at h1
        rw [hy] at h1y
        obtain ⟨vs, h2, h3, h4⟩ := h1
        have h5 := repI h1y
        obtain ⟨k0, k1, hfit, hone, hK⟩ := hK
        have k1 : k < (n : Int) := by omega
        have hp := run_part hj w (cs := vs) (off := k.toNat * i.size) (by omega) hone.one
        refine Done.val I ?_ hK (shape_take h3 h4 hfit hone.one)
        simp only [execOp, ho, h2, h5, Instr.index, asIntOf, Sem.run_bind, run_underlying hu, Sem.run_pure, Result.andThen_ok, k0, k1, and_self, if_true, hj.run_size, hp]
      · rename_i cs kk k hx hy
        rw [hx] at h1
        rw [hy] at h1y
        obtain ⟨vs, h2, h3, h4⟩ := h1
        have h5 := repI h1y
        obtain ⟨k0, k1, hfit, hone, hK⟩ := hK
        have k1 : k < (n : Int) := by omega
        have hp := run_part hj w (cs := vs) (off := k.toNat * i.size) (by omega) hone.one
        have := load_D (ι := ι) (x := .agg cs) (b := 0) (off := k.toNat * i.size) (n := i.size) (agg := isAggT i.und) (vs := vs) (fun j hj => by rw [Nat.zero_add]; exact h4 j hj) hfit hone.one
        rw [Nat.zero_add] at this
        refine Done.val I ?_ hK this
        simp only [execOp, ho, h2, h5, Instr.index, asIntOf, Sem.run_bind, run_underlying hu, Sem.run_pure, Result.andThen_ok, k0, k1, and_self, if_true, hj.run_size, hp]
      · exact hK.elim
    · exact hK.elim
  · rename_i sz by' z ht
    have hT := tt _ _ ht
    have hu := hT.und
    split at hK
    · rename_i b kk k hx hy
      rw [hx] at h1
      rw [hy] at h1y
      have h2 := repS h1
      have h5 := repI h1y
      obtain ⟨k0, c, hc, hK⟩ := hK
      refine Done.val I ?_ hK (.i _ _)
      simp only [execOp, ho, h2, h5, Instr.index, asIntOf, Sem.run_bind, run_underlying hu, Sem.run_pure, Result.andThen_ok, k0, if_true, hc]
    · exact hK.elim
  · exact hK.elim

theorem op_indexAddr {T : TypeId} {x y : Operand} (ho : o.op = .indexAddr T x y) (hK : opR Ω E draw ev h o.op id K) : Done ι imm h w K ((execOp ρ o).run P w) := by
  rw [ho] at hK
  have h1 := he x
  have h1y := he y
  simp only [opR, w_slen, w_sget, w_ssub, w_sset, w_srep, w_scat, BrG_eq, DK_eq, w_ci, w_iand, w_ior, w_ixor, w_ishl, w_ishr, w_wrap, w_tmod, w_lt, w_le, w_eq, w_ne, w_ile, w_ilt, w_tn, w_nadd, w_nsub, w_nlt, w_leb, w_room, w_imax, w_imin] at hK
  split at hK
  · rename_i sz by' z n e ht
    have hT := tt _ _ ht
    have hu := hT.und
    obtain ⟨ea, ee⟩ := arrayLen_of hu
    have hu' : P.underlying T = some (.array (P.arrayLen T) (P.elem T)) := by rw [ea, ee]; exact hu
    split at hK
    · rename_i i hi
      have hj := tt _ _ hi
      have run : ∀ (g off : Nat) (kk : IntKind) (k : Int), 0 ≤ k → k < n → (Instr.indexAt T (.pointer (some ⟨g, off, none⟩)) (.int kk k)).run P w = .ok (.pointer (some ⟨g, off + k.toNat * i.size, none⟩)) w := fun g off kk k k0 k1 => by
        rw [run_indexAt_array (h := hu'), if_pos ⟨k0, by rw [ea]; exact k1⟩, ee, hj.run_size]
        simp only [Result.andThen_ok, addr_add]
      split at hK
      · rename_i j off kk k hx hy
        rw [hx] at h1
        rw [hy] at h1y
        obtain ⟨g, h2, h3⟩ := h1
        have h5 := repI h1y
        obtain ⟨k0, k1, hK⟩ := hK
        have k1 : k < (n : Int) := by omega
        refine Done.val I ?_ hK ⟨g, h2, rfl⟩
        simp only [execOp, ho, h3, h5, Sem.run_bind, Sem.run_pure, Result.andThen_ok, run g off kk k k0 k1]
      · rename_i j sz l off kk k hx hy
        rw [hx] at h1
        rw [hy] at h1y
        obtain ⟨g, m, cap, h2, h3⟩ := h1
        have h5 := repI h1y
        obtain ⟨k0, k1, hK⟩ := hK
        have k1 : k < (n : Int) := by omega
        refine Done.val I ?_ hK ⟨g, m, cap, h2, rfl⟩
        simp only [execOp, ho, h3, h5, Sem.run_bind, Sem.run_pure, Result.andThen_ok, run _ _ kk k k0 k1, Nat.add_assoc]
      · rename_i y' off kk k hx hy
        rw [hx] at h1
        rw [hy] at h1y
        obtain ⟨g, b, cs, T', fr, h2, h3, h4, h5'⟩ := h1
        have h5 := repI h1y
        obtain ⟨k0, k1, hK⟩ := hK
        have k1 : k < (n : Int) := by omega
        refine Done.val I ?_ hK ⟨g, b, cs, T', fr, h2, h3, rfl, h5'⟩
        simp only [execOp, ho, h4, h5, Sem.run_bind, Sem.run_pure, Result.andThen_ok, run _ _ kk k k0 k1, Nat.add_assoc]
      · exact hK.elim
    · exact hK.elim
  · rename_i sz by' z e ht
    have hT := tt _ _ ht
    have hu := hT.und
    have ee := elem_of hu
    have hu' : P.underlying T = some (.slice (P.elem T)) := by rw [ee]; exact hu
    split at hK
    · rename_i i hi
      have hj := tt _ _ hi
      have run : ∀ (g off len cap : Nat) (kk : IntKind) (k : Int), 0 ≤ k → k < len → (Instr.indexAt T (.slice (some ⟨g, off, none⟩) len cap) (.int kk k)).run P w = .ok (.pointer (some ⟨g, off + k.toNat * i.size, none⟩)) w := fun g off len cap kk k k0 k1 => by
        rw [run_indexAt_slice (h := hu'), if_pos ⟨k0, k1⟩, ee, hj.run_size]
        simp only [Result.andThen_ok, addr_add]
      split at hK
      · rename_i xs kk k hx hy
        rw [hx] at h1
        rw [hy] at h1y
        have h5 := repI h1y
        obtain ⟨k0, y', hy', hsz, hK⟩ := hK
        have hk : k.toNat < xs.length := (List.getElem?_eq_some_iff.1 hy').1
        have hmem : y' ∈ xs := List.mem_of_getElem? hy'
        have ey : xs.getD k.toNat .np = y' := by simp [List.getD, hy']
        obtain ⟨a, c, h2, h3⟩ := repSl h1
        cases h3 with
        | sl0 => simp at hk
        | sl _ g off cap sz' cs T' fr hne him hg hcap hs hb hr =>
          have hsz' : sz' = i.size := (hs y' hmem).symm.trans hsz
          subst hsz'
          refine Done.val I ?_ hK ⟨g, off + k.toNat * i.size, cs, T', fr, him, hg, rfl, fun j hj' => ?_⟩
          · simp only [execOp, ho, h2, h5, Sem.run_bind, Sem.run_pure, Result.andThen_ok, run g off xs.length c kk k k0 (by omega), Nat.add_zero]
          · rw [hsz] at hj'
            refine ⟨by have := hb k.toNat j hk hj'; omega, ?_⟩
            have := hr k.toNat j hk hj'
            rw [ey] at this
            rw [Nat.add_assoc]
            exact this
      · rename_i j sz kk k hx hy
        rw [hx] at h1
        rw [hy] at h1y
        have h5 := repI h1y
        split at hK
        · rename_i l e' z' xs hj'
          obtain ⟨rfl, rfl, k0, k1, hK⟩ := hK
          obtain ⟨v', h4, h6⟩ := I.blk j _ hj'
          obtain ⟨h7, h8⟩ := h1
          rw [h7] at h4; cases h4
          have hform : ∃ g cap, ρ x = .slice (some ⟨g, 0, none⟩) xs.length cap := by
            rcases h8 with h8 | ⟨g, n, cap, h8⟩
            · exfalso
              rw [h8] at h6
              cases l with
              | true =>
                obtain ⟨cells, ho', _⟩ := h6
                rcases ho'.2 with ⟨_, hn⟩ | ⟨g, cap, cur, c, _⟩
                · omega
                · cases c
              | false => have := h6.1.len; omega
            · rw [h8] at h6
              have hn : n = xs.length := by
                cases l with
                | true =>
                  obtain ⟨cells, ho', _⟩ := h6
                  rcases ho'.2 with ⟨c, _⟩ | ⟨g, cap, cur, c, _⟩
                  · cases c
                  · cases c; rfl
                | false => exact h6.1.len
              subst hn
              exact ⟨g, cap, h8⟩
          obtain ⟨g, cap, h9⟩ := hform
          refine Done.val I ?_ hK ⟨g, xs.length, cap, h9 ▸ h7, rfl⟩
          simp only [execOp, ho, h9, h5, Sem.run_bind, Sem.run_pure, Result.andThen_ok, run g 0 _ cap kk k k0 k1, Nat.add_zero, Nat.zero_add]
        · exact hK.elim
      · rename_i j sz off len kk k hx hy
        rw [hx] at h1
        rw [hy] at h1y
        have h5 := repI h1y
        obtain ⟨rfl, k0, k1, hK⟩ := hK
        rcases h1 with ⟨g, n, cap, c, h2, h3, h4⟩ | ⟨_, h3, _⟩
        · refine Done.val I ?_ hK ⟨g, n, cap, h2, rfl⟩
          simp only [execOp, ho, h3, h5, Sem.run_bind, Sem.run_pure, Result.andThen_ok, run _ _ _ c kk k k0 k1, Nat.add_zero, Nat.add_mul]
        · omega
      · exact hK.elim
    · exact hK.elim
  · exact hK.elim

end
end Go.K
end
section
/-
  K, part 8: each operation does what 'opR' says, continued.
-/
namespace Go.K
open Go
set_option linter.unusedSectionVars false
set_option linter.unusedVariables false
set_option linter.unusedSimpArgs false

section
variable {ι : Nat → Option Value} {imm : Nat → Prop} {h : Heap} {w : World} {K : Out → Prop}
variable {P : Program} {E : Env} {draw : Bool} {ev : Operand → V} {ρ : Operand → Value} {o : Oper} {id : Nat}

/-- the value of a bound that may be left out -/
def bnd (x : Option Value) (dflt : Int) (n : Int) : Prop := (x = none ∧ n = dflt) ∨ ∃ k, x = some (.int k n)

theorem run_bounds {isSlice : Bool} {len cap : Nat} {lo hi mx : Option Value} {l u m : Int} (hl : bnd lo 0 l) (hu : bnd hi len u) (hm : bnd mx cap m) (hh : mx.isSome = true → hi.isSome = true)
    (h0 : 0 ≤ l) (h1 : l ≤ u) (h2 : u ≤ m) (h3 : m ≤ cap) (w : World) : (Instr.sliceBounds isSlice len cap lo hi mx).run P w = .ok (l.toNat, u.toNat, m.toNat) w := by
  have em : (m.toNat : Int) = m := Int.toNat_of_nonneg (by omega)
  have eu : (u.toNat : Int) = u := Int.toNat_of_nonneg (by omega)
  rcases hm with ⟨rfl, rfl⟩ | ⟨km, rfl⟩
  · rcases hu with ⟨rfl, rfl⟩ | ⟨ku, rfl⟩
    · rcases hl with ⟨rfl, rfl⟩ | ⟨kl, rfl⟩
      · simp [Instr.sliceBounds]
      · have := run_sliceBound (P := P) w kl l len .sliceB h0 h1
        simp [Instr.sliceBounds, this]
    · have a := fun c => run_sliceBound (P := P) w ku u cap c (by omega) (by omega)
      rcases hl with ⟨rfl, rfl⟩ | ⟨kl, rfl⟩
      · simp [Instr.sliceBounds, a]
      · have b := run_sliceBound (P := P) w kl l u.toNat .sliceB h0 (by omega)
        simp [Instr.sliceBounds, a, b]
  · rcases hu with ⟨rfl, rfl⟩ | ⟨ku, rfl⟩
    · simp at hh
    · have c := fun c => run_sliceBound (P := P) w km m cap c (by omega) h3
      have a := fun c => run_sliceBound (P := P) w ku u m.toNat c (by omega) (by omega)
      rcases hl with ⟨rfl, rfl⟩ | ⟨kl, rfl⟩
      · simp [Instr.sliceBounds, a, c]
      · have b := fun c => run_sliceBound (P := P) w kl l u.toNat c h0 (by omega)
        simp [Instr.sliceBounds, a, b, c]

theorem bnd_low {x : Option Operand} {l : Int} (he : ∀ x, RepV ι imm w (ev x) (ρ x)) (hl : lowOf (x.map ev) = some l) : bnd (x.map ρ) 0 l := by
  cases x with
  | none => cases hl; exact .inl ⟨rfl, rfl⟩
  | some x =>
    have h1 := he x
    simp only [Option.map_some] at hl ⊢
    generalize ev x = v at hl h1
    unfold lowOf at hl
    split at hl
    · rename_i e; cases e
    · rename_i k n e; cases e; cases hl
      exact .inr ⟨k, congrArg some (repI h1)⟩
    · cases hl
theorem bnd_high {x : Option Operand} {len : Nat} {l : Int} (he : ∀ x, RepV ι imm w (ev x) (ρ x)) (hl : highOf Ω len (x.map ev) = some l) : bnd (x.map ρ) len l := by
  cases x with
  | none => cases hl; exact .inl ⟨rfl, rfl⟩
  | some x =>
    have h1 := he x
    simp only [Option.map_some] at hl ⊢
    generalize ev x = v at hl h1
    unfold highOf at hl
    split at hl
    · rename_i e; cases e
    · rename_i k n e; cases e; cases hl
      exact .inr ⟨k, congrArg some (repI h1)⟩
    · cases hl
/-- the third bound: where it is left out it is the capacity -/
theorem bnd_max {x : Option Operand} {len cap : Nat} {m : Int} (he : ∀ x, RepV ι imm w (ev x) (ρ x)) (hl : highOf Ω len (x.map ev) = some m) (hc : len ≤ cap) : ∃ m' : Int, bnd (x.map ρ) cap m' ∧ m ≤ m' ∧ (m ≤ len → m' ≤ cap) := by
  cases x with
  | none => cases hl; exact ⟨cap, .inl ⟨rfl, rfl⟩, by simp only [w_ci]; omega, fun _ => Int.le_refl _⟩
  | some x =>
    have := bnd_high he hl
    rcases this with ⟨e, _⟩ | ⟨k, e⟩
    · cases e
    · exact ⟨m, .inr ⟨k, e⟩, Int.le_refl _, fun _ => by omega⟩

variable (I : Inv ι imm h w) (tt : TTok P E.tt) (he : ∀ x, RepV ι imm w (ev x) (ρ x))
include I tt he

theorem op_slice {T : TypeId} {x : Operand} {lo hi mx : Option Operand} (ho : o.op = .slice T x lo hi mx) (hK : opR Ω E draw ev h o.op id K) : Done ι imm h w K ((execOp ρ o).run P w) := by
  rw [ho] at hK
  have h1 := he x
  simp only [opR, w_slen, w_sget, w_ssub, w_sset, w_srep, w_scat, BrG_eq, DK_eq, w_ci, w_iand, w_ior, w_ixor, w_ishl, w_ishr, w_wrap, w_tmod, w_lt, w_le, w_eq, w_ne, w_ile, w_ilt, w_tn, w_nadd, w_nsub, w_nlt, w_leb, w_room, w_imax, w_imin] at hK
  split at hK
  · rename_i sz by' z e ht
    have hT := tt _ _ ht
    have hu := hT.und
    have ee := elem_of hu
    have hu' : P.underlying T = some (.slice (P.elem T)) := by rw [ee]; exact hu
    split at hK
    · rename_i i hi'
      have hj := tt _ _ hi'
      have run : ∀ (a : Option Addr) (len cap : Nat) (l u m : Int), bnd (lo.map ρ) 0 l → bnd (hi.map ρ) len u → bnd (mx.map ρ) cap m → (mx.isSome = true → hi.isSome = true) → 0 ≤ l → l ≤ u → u ≤ m → m ≤ cap →
          (Instr.sliceAt T (.slice a len cap) (lo.map ρ) (hi.map ρ) (mx.map ρ)).run P w = .ok (sliced a l.toNat u.toNat m.toNat i.size) w := fun a len cap l u m b1 b2 b3 hh h0 h1 h2 h3 => by
        rw [run_sliceAt_slice (h := hu'), run_slice_any (ht := hu'), run_bounds b1 b2 b3 (by simpa using hh) h0 h1 h2 h3, ee]
        simp only [Result.andThen_ok, hj.run_size]
      split at hK
      · rename_i xs hx
        rw [hx] at h1
        obtain ⟨a, c, h2, h3⟩ := repSl h1
        split at hK
        · rename_i l u m hl hu'' hm
          obtain ⟨h0, hlu, hum, hmx, hh, huni, hK⟩ := hK
          have hlc : xs.length ≤ c := by
            cases h3 with
            | sl0 => simp
            | sl => assumption
          obtain ⟨m', b3, hmm, hmc⟩ := bnd_max (cap := c) he hm hlc
          have hr := run a xs.length c l u m' (bnd_low he hl) (bnd_high he hu'') b3 hh h0 hlu (by omega) (hmc hmx)
          refine Done.val (v := sliced a l.toNat u.toNat m'.toNat i.size) I ?_ hK ?_
          · simp only [execOp, ho, h2, Sem.run_bind, Sem.run_pure, Result.andThen_ok, hr]
          · show RepC imm w (.sl _) _
            unfold sliced
            by_cases hz : u.toNat - l.toNat = 0
            · rw [hz, List.take_zero]
              exact .sl0 _ _
            · rw [if_neg (by omega)]
              have h3' := h3
              cases h3 with
              | sl0 => simp at hmx; omega
              | sl _ g off =>
                simp only [Option.map_some, addr_add]
                exact h3'.piece huni (by omega) (by omega)
        · exact hK.elim
      · rename_i j sz' hx
        rw [hx] at h1
        split at hK
        · rename_i l' e' z' xs hj'
          split at hK
          · rename_i hlm
            obtain ⟨rfl, hmx0⟩ := hlm
            split at hK
            · rename_i ku u km m hu2 hm2
              obtain ⟨rfl, rfl, rfl, h0, hum, hmx, hid, hK⟩ := hK
              obtain ⟨v', h4, h6⟩ := I.blk j _ hj'
              obtain ⟨h7, h8⟩ := h1
              rw [h7] at h4; cases h4
              obtain ⟨cells, ho', hux, hcx⟩ := h6
              have b1 : bnd ((none : Option Operand).map ρ) 0 0 := .inl ⟨rfl, rfl⟩
              have b2 : ∀ len : Nat, bnd (hi.map ρ) len u := fun len => bnd_high (ι := ι) (imm := imm) (w := w) he (len := len) (by rw [hu2]; rfl)
              have b3 : ∀ cap : Nat, bnd (mx.map ρ) cap m := fun cap => bnd_high (ι := ι) (imm := imm) (w := w) he (len := cap) (by rw [hm2]; rfl)
              have hh : mx.isSome = true → hi.isSome = true := fun _ => by cases hi with
                | none => cases hu2
                | some _ => rfl
              have hne : j ≠ id := fun q => by subst q; rw [hid] at hj'; cases hj'
              rcases ho'.2 with ⟨h9, hn⟩ | ⟨g, cap, cur, h9, hb0, hg, hnc, hcm, hcs, htake⟩
              · have hr := run none 0 0 0 u m b1 (b2 0) (b3 0) hh (Int.le_refl _) h0 hum (by omega)
                have g1 := I.giveUp hj'
                have hid2 : upd h j (some Blk.dead) id = none := by rw [upd_other _ _ _ _ (Ne.symm hne)]; exact hid
                have hxs : xs = [] := List.eq_nil_of_length_eq_zero hn
                subst hxs
                simp only [List.drop_zero, List.take_nil] at hK
                have st := g1.1.fresh hid2 (.slice none 0 0) (.row true e' i.size []) (w' := w) (Nat.le_refl _) (fun _ _ => rfl) rfl rfl rfl (fun g hg => by cases hg)
                  ⟨[], rowOwn_nil w 0 e' i.size, fun _ q => absurd q List.not_mem_nil, fun _ _ q => absurd q (Nat.not_lt_zero _)⟩
                have hv : sliced none (0 : Int).toNat u.toNat m.toNat i.size = .slice none 0 0 := by
                  have hm0 : m.toNat = 0 := by simp at hmx; omega
                  have hu0 : u.toNat = 0 := by omega
                  unfold sliced
                  rw [hm0, hu0]
                  split <;> rfl
                rw [hv] at hr
                refine ⟨_, .slice none 0 0, _, _, imm, .inl ?_, hK, g1.2.trans st.2, st.1, ⟨upd_same _ _ _, .inl rfl⟩⟩
                simp only [execOp, ho, h9, Sem.run_bind, Sem.run_pure, Result.andThen_ok, hr]
              · have hr := run (some ⟨g, 0, none⟩) xs.length cap 0 u m b1 (b2 _) (b3 cap) hh (Int.le_refl _) h0 hum (by omega)
                have hv : sliced (some ⟨g, 0, none⟩) (0 : Int).toNat u.toNat m.toNat i.size = .slice (some ⟨g, 0, none⟩) u.toNat m.toNat := by
                  unfold sliced
                  by_cases hm0 : m.toNat = 0
                  · have hu0 : u.toNat = 0 := by omega
                    simp [hm0, hu0]
                  · simp [hm0, addr_add]
                rw [hv] at hr
                rw [h9] at h7
                have st := I.moved hj' rfl h7 rfl hid (v := .slice (some ⟨g, 0, none⟩) u.toNat m.toNat) (B := .row true e' i.size ((xs.drop 0).take u.toNat)) (w' := w) (Nat.le_refl _) (fun _ _ _ => rfl) rfl rfl rfl rfl ?_
                · refine ⟨_, .slice (some ⟨g, 0, none⟩) u.toNat m.toNat, _, _, imm, .inl ?_, hK, st.2, st.1, ⟨upd_same _ _ _, .inr ⟨_, _, _, rfl⟩⟩⟩
                  simp only [execOp, ho, h9, Sem.run_bind, Sem.run_pure, Result.andThen_ok, hr]
                · have hul : ((xs.drop 0).take u.toNat).length = u.toNat := by simp; omega
                  have hle : u.toNat * i.size ≤ xs.length * i.size := Nat.mul_le_mul_right _ (by omega)
                  have hcl : cells.length = xs.length * i.size := ho'.1
                  refine ⟨cells.take (u.toNat * i.size), ⟨?_, .inr ⟨g, m.toNat, cur, by rw [hul], Nat.zero_le _, hg, by rw [hul]; omega, by omega, Nat.le_trans (Nat.mul_le_mul_right _ (by omega)) hcs, ?_⟩⟩, fun x hx => hux x (by simpa using List.mem_of_mem_take hx), fun a b ha hb => ?_⟩
                  · rw [hul, List.length_take]; omega
                  · rw [hul, ← htake, List.take_take, Nat.min_eq_left hle]
                  · rw [hul] at ha
                    have hlt : a * i.size + b < u.toNat * i.size := by
                      have := Nat.mul_le_mul_right i.size (Nat.succ_le_of_lt ha); rw [Nat.succ_mul] at this; omega
                    have e1 : ((xs.drop 0).take u.toNat).getD a .np = xs.getD a .np := by simp [List.getD, ha]
                    have e2 : (cells.take (u.toNat * i.size)).getD (a * i.size + b) undef = cells.getD (a * i.size + b) undef := by simp [List.getD, hlt]
                    rw [e1, e2]
                    exact hcx a b (by omega) hb
            · exact hK.elim
          split at hK
          · rename_i l u m hl hu'' hm
            obtain ⟨rfl, rfl, h0, hlu, hum, hmx, hh, hK⟩ := hK
            obtain ⟨v', h4, h6⟩ := I.blk j _ hj'
            obtain ⟨h7, h8⟩ := h1
            rw [h7] at h4; cases h4
            have hform : ρ x = .slice none 0 0 ∧ xs.length = 0 ∨ ∃ g cap, ρ x = .slice (some ⟨g, 0, none⟩) xs.length cap ∧ xs.length ≤ cap := by
              rcases h8 with h8 | ⟨g, n, cap, h8⟩
              · left
                refine ⟨h8, ?_⟩
                rw [h8] at h6
                cases l' with
                | true =>
                  obtain ⟨cells, ho', _⟩ := h6
                  rcases ho'.2 with ⟨_, hn⟩ | ⟨g, cap, cur, c, _⟩
                  · exact hn
                  · cases c
                | false => exact h6.1.len.symm
              · right
                rw [h8] at h6
                cases l' with
                | true =>
                  obtain ⟨cells, ho', _⟩ := h6
                  rcases ho'.2 with ⟨c, _⟩ | ⟨g', cap', cur, c, _, _, hc, _⟩
                  · cases c
                  · cases c; exact ⟨g, cap, h8, hc⟩
                | false =>
                  have hn := h6.1.len
                  subst hn
                  refine ⟨g, cap, h8, ?_⟩
                  cases h6.1 with
                  | sl0 => simp
                  | sl => assumption
            rcases hform with ⟨h9, hn⟩ | ⟨g, cap, h9, hc⟩
            · obtain ⟨m', b3, hmm, hmc⟩ := bnd_max (cap := 0) he hm (by omega)
              have hu2 := bnd_high (ι := ι) (imm := imm) (w := w) he hu''
              rw [hn] at hu2
              have hr := run none 0 0 l u m' (bnd_low he hl) hu2 b3 hh h0 hlu (by omega) (hmc (by omega))
              refine Done.val (v := sliced none l.toNat u.toNat m'.toNat i.size) I ?_ hK (.inr ⟨⟨_, h7⟩, by omega, none, ?_⟩)
              · simp only [execOp, ho, h9, Sem.run_bind, Sem.run_pure, Result.andThen_ok, hr]
              · have hm0 := hmc (by omega)
                unfold sliced
                rw [show u.toNat - l.toNat = 0 by omega, show m'.toNat - l.toNat = 0 by omega]
                split <;> rfl
            · obtain ⟨m', b3, hmm, hmc⟩ := bnd_max (cap := cap) he hm hc
              have hr := run (some ⟨g, 0, none⟩) xs.length cap l u m' (bnd_low he hl) (bnd_high he hu'') b3 hh h0 hlu (by omega) (hmc hmx)
              have hmc' := hmc hmx
              refine Done.val (v := sliced (some ⟨g, 0, none⟩) l.toNat u.toNat m'.toNat i.size) I ?_ hK ?_
              · simp only [execOp, ho, h9, Sem.run_bind, Sem.run_pure, Result.andThen_ok, hr]
              · unfold sliced
                by_cases hml : m'.toNat = l.toNat
                · rw [if_pos hml]
                  refine .inr ⟨⟨_, h7⟩, by omega, some ⟨g, 0, none⟩, ?_⟩
                  rw [show u.toNat - l.toNat = 0 by omega, show m'.toNat - l.toNat = 0 by omega]
                · rw [if_neg hml]
                  refine .inl ⟨g, xs.length, cap, m'.toNat - l.toNat, h9 ▸ h7, ?_, by omega, by omega⟩
                  simp only [Option.map_some, addr_add, Nat.zero_add]
          · exact hK.elim
        · exact hK.elim
      · rename_i j sz' off len hx
        rw [hx] at h1
        split at hK
        · rename_i l u m hl hu'' hm
          obtain ⟨rfl, h0, hlu, hum, hmx, hh, hK⟩ := hK
          rcases h1 with ⟨g, n, cap, c, h2, h3, h4, h5⟩ | ⟨⟨q, h2⟩, rfl, base, h3⟩
          · obtain ⟨m', b3, hmm, hmc⟩ := bnd_max (cap := c) he hm h4
            have hmc' := hmc hmx
            have hr := run (some ⟨g, off * i.size, none⟩) len c l u m' (bnd_low he hl) (bnd_high he hu'') b3 hh h0 hlu (by omega) hmc'
            refine Done.val (v := sliced (some ⟨g, off * i.size, none⟩) l.toNat u.toNat m'.toNat i.size) I ?_ hK ?_
            · simp only [execOp, ho, h3, Sem.run_bind, Sem.run_pure, Result.andThen_ok, hr]
            · unfold sliced
              by_cases hml : m'.toNat = l.toNat
              · rw [if_pos hml]
                refine .inr ⟨⟨_, h2⟩, by omega, some ⟨g, off * i.size, none⟩, ?_⟩
                rw [show u.toNat - l.toNat = 0 by omega, show m'.toNat - l.toNat = 0 by omega]
              · rw [if_neg hml]
                refine .inl ⟨g, n, cap, m'.toNat - l.toNat, h2, ?_, by omega, by omega⟩
                simp only [Option.map_some, addr_add, Nat.add_mul]
          · obtain ⟨m', b3, hmm, hmc⟩ := bnd_max (cap := 0) he hm (Nat.le_refl _)
            have hmc' := hmc hmx
            have hr := run base 0 0 l u m' (bnd_low he hl) (bnd_high he hu'') b3 hh h0 hlu (by omega) hmc'
            refine Done.val (v := sliced base l.toNat u.toNat m'.toNat i.size) I ?_ hK (.inr ⟨⟨_, h2⟩, by omega, if m'.toNat = l.toNat then base else base.map (·.add (l.toNat * i.size)), ?_⟩)
            · simp only [execOp, ho, h3, Sem.run_bind, Sem.run_pure, Result.andThen_ok, hr]
            · unfold sliced
              rw [show u.toNat - l.toNat = 0 by omega, show m'.toNat - l.toNat = 0 by omega]
        · exact hK.elim
      · exact hK.elim
    · exact hK.elim
  · rename_i sz by' z ht
    have hT := tt _ _ ht
    have hu := hT.und
    split at hK
    · rename_i b hx
      rw [hx] at h1
      have h2 := repS h1
      split at hK
      · rename_i l u hl hu''
        obtain ⟨rfl, h0, hlu, hus, hK⟩ := hK
        have hr := run_bounds (P := P) (isSlice := false) (len := b.size) (cap := b.size) (mx := none) (m := b.size) (bnd_low he hl) (bnd_high he hu'') (.inl ⟨rfl, rfl⟩) (by simp) h0 hlu hus (Int.le_refl _) w
        refine Done.val (v := .string (b.extract l.toNat u.toNat)) I ?_ hK (.s _)
        simp only [execOp, ho, h2, Option.map_none]
        rw [show ∀ a b c d, (do let x ← Instr.sliceAt T a b c d; pure (Next.value x) : Sem Next) = (Instr.sliceAt T a b c d >>= fun x => pure (Next.value x)) from fun _ _ _ _ => rfl]
        rw [Sem.run_bind, run_sliceAt_string (h := hu)]
        simp only [Instr.slice, Sem.run_bind, run_underlying hu, Result.andThen_ok, Option.isSome_none, Bool.false_eq_true, if_false, hr, Sem.run_pure]
      · exact hK.elim
    · exact hK.elim
  · exact hK.elim

theorem op_convert {S T : TypeId} {x : Operand} (ho : o.op = .convert S T x) (hK : opR Ω E draw ev h o.op id K) : Done ι imm h w K ((execOp ρ o).run P w) := by
  rw [ho] at hK
  have h1 := he x
  simp only [opR, w_slen, w_sget, w_ssub, w_sset, w_srep, w_scat, BrG_eq, DK_eq, w_ci, w_iand, w_ior, w_ixor, w_ishl, w_ishr, w_wrap, w_tmod, w_lt, w_le, w_eq, w_ne, w_ile, w_ilt, w_tn, w_nadd, w_nsub, w_nlt, w_leb, w_room, w_imax, w_imin] at hK
  split at hK
  · rename_i i sz by' z k k' n hs ht hx
    have hS := (tt _ _ hs).und
    have hT := (tt _ _ ht).und
    rw [hx] at h1
    have h2 := repI h1
    refine Done.val (v := .int k (k.wrap n)) I ?_ hK (.i _ _)
    simp only [execOp, ho, h2, convert, Sem.run_bind, run_underlying hS, run_underlying hT, Result.andThen_ok, Conv.intToInt, Sem.run_pure]
  · rename_i b hs ht hx
    have hS := (tt _ _ hs).und
    have hT := (tt _ _ ht).und
    rw [hx] at h1
    have h2 := repS h1
    refine Done.val (v := .string b) I ?_ hK (.s _)
    simp only [execOp, ho, h2, convert, Sem.run_bind, run_underlying hS, run_underlying hT, Result.andThen_ok, Sem.run_pure]
  · exact hK.elim

theorem op_makeInterface {T : TypeId} {x : Operand} (ho : o.op = .makeInterface T x) (hK : opR Ω E draw ev h o.op id K) : Done ι imm h w K ((execOp ρ o).run P w) := by
  rw [ho] at hK
  have h1 := he x
  simp only [opR, w_slen, w_sget, w_ssub, w_sset, w_srep, w_scat, BrG_eq, DK_eq, w_ci, w_iand, w_ior, w_ixor, w_ishl, w_ishr, w_wrap, w_tmod, w_lt, w_le, w_eq, w_ne, w_ile, w_ilt, w_tn, w_nadd, w_nsub, w_nlt, w_leb, w_room, w_imax, w_imin] at hK
  split at hK
  · rename_i k n ht hx
    have hT := (tt _ _ ht).und
    rw [hx] at h1
    have h2 := repI h1
    refine Done.val (v := .iface T (.int k n)) I ?_ hK (.ifc _ _ _ (.i _ _))
    simp only [execOp, ho, h2, Instr.makeInterface, Sem.run_bind, run_underlying hT, Result.andThen_ok, Sem.run_pure]
  · exact hK.elim

theorem op_unOp {op : UnOp} {T : TypeId} {x : Operand} (ho : o.op = .unOp op T x) (hK : opR Ω E draw ev h o.op id K) : Done ι imm h w K ((execOp ρ o).run P w) := by
  rw [ho] at hK
  have h1 := he x
  simp only [opR, w_slen, w_sget, w_ssub, w_sset, w_srep, w_scat, BrG_eq, DK_eq, w_ci, w_iand, w_ior, w_ixor, w_ishl, w_ishr, w_wrap, w_tmod, w_lt, w_le, w_eq, w_ne, w_ile, w_ilt, w_tn, w_nadd, w_nsub, w_nlt, w_leb, w_room, w_imax, w_imin] at hK
  split at hK
  · rename_i t hx
    rw [hx] at h1
    have h2 := repB h1
    refine Done.val (v := .bool (!t)) I ?_ hK (.b _)
    simp only [execOp, ho, h2, Op.unary, Sem.run_bind, Result.andThen_ok, Sem.run_pure]
  · rename_i k n hx
    rw [hx] at h1
    have h2 := repI h1
    refine Done.val (v := .int k (k.wrap (0 - n))) I ?_ hK (.i _ _)
    simp only [execOp, ho, h2, Op.unary, Op.intArith, Sem.run_bind, Result.andThen_ok, Sem.run_pure]
  · rename_i k n hx
    rw [hx] at h1
    have h2 := repI h1
    refine Done.val (v := .int k _) I ?_ hK (.i _ _)
    simp only [execOp, ho, h2, Op.unary, Op.intBits, Sem.run_bind, Result.andThen_ok, Sem.run_pure]
  · exact hK.elim

end
end Go.K
end
section
/-
  K, part 9: each operation does what 'opR' says, continued.
-/
namespace Go.K
open Go
set_option linter.unusedSectionVars false
set_option linter.unusedVariables false
set_option linter.unusedSimpArgs false

section
variable {ι : Nat → Option Value} {imm : Nat → Prop} {h : Heap} {w : World} {K : Out → Prop}
variable {P : Program} {E : Env} {draw : Bool} {ev : Operand → V} {ρ : Operand → Value} {o : Oper} {id : Nat}

theorem eqGuard_int (op : BinOp) (T : TypeId) (x y : Operand) (k k' : IntKind) (a c : Int) : (eqGuard op T x y (.int k a) (.int k' c)).run P w = .ok () w := by
  unfold eqGuard
  split <;> rfl
theorem eqGuard_bool (op : BinOp) (T : TypeId) (x y : Operand) (a c : Bool) : (eqGuard op T x y (.bool a) (.bool c)).run P w = .ok () w := by
  unfold eqGuard
  split <;> rfl
theorem eqGuard_slice (op : BinOp) (T : TypeId) (x y : Operand) (a a' : Option Addr) (n c n' c' : Nat) : (eqGuard op T x y (.slice a n c) (.slice a' n' c')).run P w = .ok () w := by
  unfold eqGuard
  split <;> rfl

theorem eqGuard_str (op : BinOp) (T : TypeId) (x y : Operand) (a c : ByteArray) : (eqGuard op T x y (.string a) (.string c)).run P w = .ok () w := by
  unfold eqGuard
  split <;> rfl

theorem run_equalIn_bool (d : Nat) (T : TypeId) (a c : Bool) (hu : P.underlying T = some .bool) : (Op.equalIn (d + 1) T (.bool a) (.bool c)).run P w = .ok (a == c) w := by
  simp [Op.equalIn, run_underlying hu]
theorem run_equal_bool (T : TypeId) (a c : Bool) (hu : P.underlying T = some .bool) : (Op.equal T (.bool a) (.bool c)).run P w = .ok (a == c) w := run_equalIn_bool 9999 T a c hu

def toVal : D → Value
  | .b x => .bool x
  | .i k n => .int k n
  | .s x => .string x
  | _ => undef
theorem run_binD (tt : TTok P E.tt) {op : BinOp} {T : TypeId} {a c r : D} {va vc : Value} (hd : binD Ω op a c = some r) (ha : RepV ι imm w (.d a) va) (hc : RepV ι imm w (.d c) vc) (hb : eqTy E.tt T a)
    (x y : Operand) : ∃ v, (do eqGuard op T x y va vc; binOp op T va vc : Sem Value).run P w = .ok v w ∧ RepV ι imm w (.d r) v := by
  suffices hh : (do eqGuard op T x y va vc; binOp op T va vc : Sem Value).run P w = .ok (toVal r) w ∧ RepV ι imm w (.d r) (toVal r) from ⟨_, hh⟩
  cases a with
  | i k n =>
    cases c with
    | i k' m =>
      have e1 := repI ha
      have e2 := repI hc
      subst e1 e2
      by_cases hk : k = k'
      · subst hk
        rw [Sem.run_bind, eqGuard_int]
        simp only [Result.andThen_ok]
        cases op <;> simp only [binD, if_true, Option.some.injEq, reduceCtorEq] at hd
        all_goals subst hd
        all_goals refine ⟨?_, (by first | exact RepC.i _ _ | exact RepC.b _)⟩
        all_goals simp [binOp, Op.intArith, Op.intCmp, toVal, w_wrap, w_lt, w_le, w_eq, w_ne]
      · cases op <;> simp only [binD, if_neg hk] at hd <;> cases hd
    | _ => cases op <;> simp [binD] at hd
  | b t =>
    cases c with
    | b t' =>
      have e1 := repB ha
      have e2 := repB hc
      subst e1 e2
      have hu : P.underlying T = some .bool := by
        simp only [eqTy] at hb
        split at hb
        · rename_i ht; exact (tt _ _ ht).und
        · exact hb.elim
      rw [Sem.run_bind, eqGuard_bool]
      simp only [Result.andThen_ok]
      cases op <;> simp only [binD, Option.some.injEq, reduceCtorEq] at hd
      all_goals subst hd
      all_goals refine ⟨?_, (by first | exact RepC.i _ _ | exact RepC.b _)⟩
      all_goals simp only [binOp]
      all_goals simp [run_equal_bool (w := w) T _ _ hu, toVal]
    | _ => cases op <;> simp [binD] at hd
  | s t =>
    cases c with
    | s t' =>
      have e1 := repS ha
      have e2 := repS hc
      subst e1 e2
      rw [Sem.run_bind, eqGuard_str]
      simp only [Result.andThen_ok]
      cases op <;> simp only [binD, Option.some.injEq, reduceCtorEq] at hd
      all_goals subst hd
      all_goals refine ⟨?_, (by first | exact RepC.i _ _ | exact RepC.b _)⟩
      all_goals simp [binOp, Op.stringOp, toVal]
    | _ => cases op <;> simp [binD] at hd
  | _ => cases op <;> cases c <;> simp [binD] at hd

variable (I : Inv ι imm h w) (tt : TTok P E.tt) (he : ∀ x, RepV ι imm w (ev x) (ρ x))
include I tt he

theorem op_binOp {op : BinOp} {T U : TypeId} {x y : Operand} (ho : o.op = .binOp op T x y U) (hK : opR Ω E draw ev h o.op id K) : Done ι imm h w K ((execOp ρ o).run P w) := by
  rw [ho] at hK
  have h1 := he x
  have h1y := he y
  simp only [opR, w_slen, w_sget, w_ssub, w_sset, w_srep, w_scat, BrG_eq, DK_eq, w_ci, w_iand, w_ior, w_ixor, w_ishl, w_ishr, w_wrap, w_tmod, w_lt, w_le, w_eq, w_ne, w_ile, w_ilt, w_tn, w_nadd, w_nsub, w_nlt, w_leb, w_room, w_imax, w_imin] at hK
  have fin : ∀ v (r : D), (binOp op T (ρ x) (ρ y)).run P w = .ok v w → (eqGuard op T x y (ρ x) (ρ y)).run P w = .ok () w → RepV ι imm w (.d r) v → K { v := .d r } → Done ι imm h w K ((execOp ρ o).run P w) := fun v r hr hg hR hk => by
    refine Done.val (v := v) I ?_ hk hR
    simp only [execOp, ho, Sem.run_bind, hg, Result.andThen_ok, hr, Sem.run_pure]
  have finI : ∀ (k : IntKind) (n : Int), (binOp op T (ρ x) (ρ y)).run P w = .ok (.int k n) w → (eqGuard op T x y (ρ x) (ρ y)).run P w = .ok () w → K { v := .d (.i k n) } → Done ι imm h w K ((execOp ρ o).run P w) :=
    fun k n hr hg hk => fin (.int k n) (.i k n) hr hg (RepC.i k n) hk
  split at hK
  · rename_i xs hx hy
    rw [hx] at h1
    rw [hy] at h1y
    obtain ⟨a, c, h2, h3⟩ := repSl h1
    have h4 : ρ y = .slice none 0 0 := h1y
    obtain ⟨_, rfl, hty, hK⟩ := hK
    have hu : ∃ e, P.underlying T = some (.slice e) := by
      split at hty
      · rename_i ht; exact ⟨_, (tt _ _ ht).und⟩
      · exact hty.elim
    obtain ⟨e, hu⟩ := hu
    refine fin (.bool a.isNone) (.b a.isNone) ?_ (by rw [h2, h4]; exact eqGuard_slice _ _ _ _ _ _ _ _ _ _) (RepC.b _) (hK a.isNone fun ha => ?_)
    · rw [h2, h4]
      simp only [binOp]
      simp [run_equal_slice_nil w T e a xs.length c hu]
    · cases h3 with
      | sl0 => rfl
      | sl => cases ha
  · rename_i a c hx hy
    rw [hx] at h1
    rw [hy] at h1y
    split at hK
    · rename_i r hd
      obtain ⟨hty, hK⟩ := hK
      obtain ⟨v, hr, hR⟩ := run_binD (ι := ι) (imm := imm) (w := w) tt hd h1 h1y hty x y
      refine Done.val (v := v) I ?_ hK hR
      simp only [execOp, ho, Sem.run_bind] at hr ⊢
      rw [hr]
      rfl
    · split at hK
      · rename_i a c _
        obtain ⟨hsz, hK⟩ := hK
        have h2 := repS h1
        have h3 := repS h1y
        refine fin (.string (a ++ c)) (.s (a ++ c)) ?_ (by rw [h2, h3]; exact eqGuard_str _ _ _ _ _ _) (RepC.s (a ++ c)) hK
        rw [h2, h3]
        have : ¬ (IntKind.i64.max < ((a.size + c.size : Nat) : Int)) := by
          simp only [IntKind.max, IntKind.signed, IntKind.bits, if_true]
          omega
        simp only [binOp, Op.stringOp, gt_iff_lt, this, if_false]
        rfl
      · rename_i k n k' m _
        obtain ⟨rfl, hm, hK⟩ := hK
        have h2 := repI h1
        have h3 := repI h1y
        refine finI _ _ ?_ (by rw [h2, h3]; exact eqGuard_int _ _ _ _ _ _ _ _) hK
        rw [h2, h3]
        simp [binOp, Op.intDiv, hm]
      · rename_i k n k' m _
        obtain ⟨rfl, hm, hK⟩ := hK
        have h2 := repI h1
        have h3 := repI h1y
        refine finI _ _ ?_ (by rw [h2, h3]; exact eqGuard_int _ _ _ _ _ _ _ _) hK
        rw [h2, h3]
        simp [binOp, Op.intDiv, hm]
      · rename_i k n k' m _
        obtain ⟨hm, hK⟩ := hK
        have h2 := repI h1
        have h3 := repI h1y
        refine finI _ _ ?_ (by rw [h2, h3]; exact eqGuard_int _ _ _ _ _ _ _ _) hK
        rw [h2, h3]
        have : ¬ m < 0 := by omega
        simp [binOp, Op.shift, this]
      · rename_i k n k' m _
        obtain ⟨hm, hK⟩ := hK
        have h2 := repI h1
        have h3 := repI h1y
        refine finI _ _ ?_ (by rw [h2, h3]; exact eqGuard_int _ _ _ _ _ _ _ _) hK
        rw [h2, h3]
        have : ¬ m < 0 := by omega
        simp [binOp, Op.shift, this]
      · rename_i k n k' m _
        obtain ⟨rfl, hK⟩ := hK
        have h2 := repI h1
        have h3 := repI h1y
        refine finI _ _ ?_ (by rw [h2, h3]; exact eqGuard_int _ _ _ _ _ _ _ _) hK
        rw [h2, h3]
        simp only [binOp, ne_eq, not_true_eq_false, if_false, Op.intBits]
        rfl
      · rename_i k n k' m _
        obtain ⟨rfl, hK⟩ := hK
        have h2 := repI h1
        have h3 := repI h1y
        refine finI _ _ ?_ (by rw [h2, h3]; exact eqGuard_int _ _ _ _ _ _ _ _) hK
        rw [h2, h3]
        simp only [binOp, ne_eq, not_true_eq_false, if_false, Op.intBits]
        rfl
      · rename_i k n k' m _
        obtain ⟨rfl, hK⟩ := hK
        have h2 := repI h1
        have h3 := repI h1y
        refine finI _ _ ?_ (by rw [h2, h3]; exact eqGuard_int _ _ _ _ _ _ _ _) hK
        rw [h2, h3]
        simp only [binOp, ne_eq, not_true_eq_false, if_false, Op.intBits]
        rfl
      · exact hK.elim
  · exact hK.elim

end
end Go.K
end
section
/-
  K, part 10: the built-ins, and what is built.
-/
namespace Go.K
open Go
set_option linter.unusedSectionVars false
set_option linter.unusedVariables false
set_option linter.unusedSimpArgs false

section
variable {ι : Nat → Option Value} {imm : Nat → Prop} {h : Heap} {w : World} {K : Out → Prop}
variable {P : Program} {E : Env} {draw : Bool} {ev : Operand → V} {ρ : Operand → Value} {o : Oper} {id : Nat}

theorem args_one {args : Array Operand} {x : V} (h : args.toList.map ev = [x]) : ∃ a, args = #[a] ∧ ev a = x := by
  obtain ⟨l⟩ := args
  cases l with
  | nil => cases h
  | cons a r =>
    cases r with
    | nil => cases h; exact ⟨a, rfl, rfl⟩
    | cons b r => cases h
theorem args_two {args : Array Operand} {x y : V} (h : args.toList.map ev = [x, y]) : ∃ a b, args = #[a, b] ∧ ev a = x ∧ ev b = y := by
  obtain ⟨l⟩ := args
  cases l with
  | nil => cases h
  | cons a r =>
    cases r with
    | nil => cases h
    | cons b r =>
      cases r with
      | nil => cases h; exact ⟨a, b, rfl, rfl, rfl⟩
      | cons c r => cases h
theorem types_one {ts : Array TypeId} {x : TypeId} (h : ts.toList = [x]) : ts = #[x] := by
  obtain ⟨l⟩ := ts; cases h; rfl
theorem types_two {ts : Array TypeId} {x y : TypeId} (h : ts.toList = [x, y]) : ts = #[x, y] := by
  obtain ⟨l⟩ := ts; cases h; rfl

/-- what an owned slice's value looks like -/
theorem own_form (I : Inv ι imm h w) {j : Nat} {l : Bool} {e z : Nat} {xs : List D} {sz : Nat} {v : Value} (hj : h j = some (.row l e z xs)) (hr : RepV ι imm w (.own j sz) v) :
    ι j = some v ∧ BlkRep ι imm w (.row l e z xs) v ∧ ((v = .slice none 0 0 ∧ xs = []) ∨ ∃ g cap, v = .slice (some ⟨g, 0, none⟩) xs.length cap ∧ xs.length ≤ cap) := by
  obtain ⟨v', h4, h6⟩ := I.blk j _ hj
  obtain ⟨h7, h8⟩ := hr
  rw [h7] at h4; cases h4
  refine ⟨h7, h6, ?_⟩
  rcases h8 with rfl | ⟨g, n, cap, rfl⟩
  · left
    refine ⟨rfl, List.eq_nil_of_length_eq_zero ?_⟩
    cases l with
    | true =>
      obtain ⟨cells, ho', _⟩ := h6
      rcases ho'.2 with ⟨_, hn⟩ | ⟨g, cap, cur, c, _⟩
      · exact hn
      · cases c
    | false => exact h6.1.len.symm
  · right
    cases l with
    | true =>
      obtain ⟨cells, ho', _⟩ := h6
      rcases ho'.2 with ⟨c, _⟩ | ⟨g', cap', cur, c, _, _, hc, _⟩
      · cases c
      · cases c; exact ⟨g, cap, rfl, hc⟩
    | false =>
      have hn := h6.1.len
      subst hn
      refine ⟨g, cap, rfl, ?_⟩
      cases h6.1 with
      | sl0 => simp
      | sl => assumption

variable (I : Inv ι imm h w) (tt : TTok P E.tt) (he : ∀ x, RepV ι imm w (ev x) (ρ x))
include I tt he

theorem op_len {args : Array Operand} {ts : Array TypeId} (ho : o.op = .call { callee := .builtin .len, args := args, argTypes := ts }) (hK : opR Ω E draw ev h o.op id K) : Done ι imm h w K ((execOp ρ o).run P w) := by
  rw [ho] at hK
  simp only [opR, w_slen, w_sget, w_ssub, w_sset, w_srep, w_scat, BrG_eq, DK_eq, w_ci, w_iand, w_ior, w_ixor, w_ishl, w_ishr, w_wrap, w_tmod, w_lt, w_le, w_eq, w_ne, w_ile, w_ilt, w_tn, w_nadd, w_nsub, w_nlt, w_leb, w_room, w_imax, w_imin] at hK
  split at hK
  · rename_i x T _ ha hT
    obtain ⟨a, rfl, rfl⟩ := args_one ha
    obtain rfl := types_one hT
    have h1 := he a
    have fin : ∀ n : Int, (Builtin.len_ #[T] o.type #[ρ a]).run P w = .ok (goInt n) w → (∃ rd, K { v := .d (.i .i64 n), rd := rd }) → Done ι imm h w K ((execOp ρ o).run P w) := fun n hr ⟨rd, hk⟩ => by
      refine Done.val (v := goInt n) (rd := rd) I ?_ hk (RepC.i _ _)
      simp [execOp, ho, resolve, invoke, builtin, hr]
    split at hK
    · rename_i xs ht hx
      have hu := (tt _ _ ht).und
      rw [hx] at h1
      obtain ⟨b, c, h2, _⟩ := repSl h1
      refine fin _ ?_ ⟨[], hK⟩
      rw [h2]; simp [Builtin.len_, run_underlying hu]
    · rename_i ht hx
      have hu := (tt _ _ ht).und
      rw [hx] at h1
      have h2 : ρ a = .slice none 0 0 := h1
      refine fin _ ?_ ⟨[], hK⟩
      rw [h2]; simp [Builtin.len_, run_underlying hu]
    · rename_i j sz ht hx
      have hu := (tt _ _ ht).und
      rw [hx] at h1
      split at hK
      · rename_i l e z xs hj
        obtain ⟨_, _, h2⟩ := own_form I hj h1
        refine fin _ ?_ ⟨[j], hK⟩
        rcases h2 with ⟨h2, rfl⟩ | ⟨g, cap, h2, _⟩
        · rw [h2]; simp [Builtin.len_, run_underlying hu]
        · rw [h2]; simp [Builtin.len_, run_underlying hu]
      · exact hK.elim
    · rename_i j sz off len ht hx
      have hu := (tt _ _ ht).und
      rw [hx] at h1
      refine fin _ ?_ ⟨[], hK⟩
      rcases h1 with ⟨g, n, cap, c, _, h2, _⟩ | ⟨_, rfl, base, h2⟩
      · rw [h2]; simp [Builtin.len_, run_underlying hu]
      · rw [h2]; simp [Builtin.len_, run_underlying hu]
    · rename_i b ht hx
      have hu := (tt _ _ ht).und
      rw [hx] at h1
      have h2 := repS h1
      refine fin _ ?_ ⟨[], hK⟩
      rw [h2]; simp [Builtin.len_, run_underlying hu]
    · rename_i n e ht
      have hu := (tt _ _ ht).und
      refine fin _ ?_ ⟨[], hK⟩
      simp [Builtin.len_, run_underlying hu]
    · exact hK.elim
  · rename_i hb _ _; cases hb
  · exact hK.elim

/-- 'make' -/
theorem op_makeSlice {T : TypeId} {l c : Operand} (ho : o.op = .makeSlice T l c) (hK : opR Ω E draw ev h o.op id K) : Done ι imm h w K ((execOp ρ o).run P w) := by
  rw [ho] at hK
  have h1l := he l
  have h1c := he c
  simp only [opR, w_slen, w_sget, w_ssub, w_sset, w_srep, w_scat, BrG_eq, DK_eq, w_ci, w_iand, w_ior, w_ixor, w_ishl, w_ishr, w_wrap, w_tmod, w_lt, w_le, w_eq, w_ne, w_ile, w_ilt, w_tn, w_nadd, w_nsub, w_nlt, w_leb, w_room, w_imax, w_imin] at hK
  split at hK
  · rename_i s1 s2 s3 e ht
    have hT := tt _ _ ht
    split at hK
    · rename_i size bytes z und hte
      have hE := tt _ _ hte
      split at hK
      · rename_i k n k' m hl hc
        rw [hl] at h1l
        rw [hc] at h1c
        have h2 := repI h1l
        have h3 := repI h1c
        split at hK
        · rename_i x hx
          obtain ⟨hid, hn, hnm, hb, h63, hpos, hxs, hK⟩ := hK
          obtain ⟨info, i1, i2, i3, i4⟩ := hE.ok
          have hzs := (hE.zero z rfl).1
          have hr := run_make (P := P) w T e info z hT.und i1 i4 k k' n m hn hnm (by rw [i3]; exact hb) (by omega)
          have hzrep : RepD imm w x z := toD_rep (h := h) (h1 := h) I (fun i hi => by
            exfalso
            have : idsOf (constV z) = [] := by
              have one : ∀ y, ids1 (const1 y) = [] := fun y => by
                unfold const1; split <;> rfl
              unfold constV
              split
              · split
                · simp only [idsOf]
                  rename_i cs _
                  have : ∀ l : List Value, (l.map const1).flatMap ids1 = [] := fun l => by
                    induction l with
                    | nil => rfl
                    | cons a r ih => simp only [List.map_cons, List.flatMap_cons, one, ih, List.append_nil]
                  exact this _
                · rfl
              · rename_i v hv
                have h0 := one z
                generalize hq : const1 z = q at h0
                cases q with
                | agg cs => exfalso; unfold const1 at hq; split at hq <;> cases hq
                | _ => exact h0
            rw [this] at hi; cases hi) (constV_rep ι imm w z) hx
          obtain ⟨c1, c2⟩ := repD_cells hzrep
          have hsz : info.size = size := i2
          have hcells : ∀ i j, j < size → i * size + j < m.toNat * size → (madeCells z.cells (m.toNat * info.size)).getD (i * size + j) undef = z.cells.getD j undef := fun i j hj hk => by
            have e1 : (i * size + j) % z.cells.size = j := by
              rw [hzs]
              show (i * size + j) % size = j
              rw [Nat.mul_comm, Nat.mul_add_mod, Nat.mod_eq_of_lt hj]
            have hlt : j < z.cells.size := by rw [hzs]; exact hj
            simp only [madeCells, hsz, Array.getD_eq_getD_getElem?, Array.getElem?_map]
            have : (Array.range (m.toNat * size))[i * size + j]? = some (i * size + j) := by simp [hk]
            rw [this]
            simp only [Option.map_some, Option.getD_some, e1]
            rw [getElem!_pos z.cells j hlt]
            simp [hlt]
          have hlen : (List.replicate n.toNat x).length = n.toNat := by simp
          have st := I.fresh hid (.slice (some ⟨w.heap.size, 0, none⟩) n.toNat m.toNat) (.row true e size (List.replicate n.toNat x)) (w' := w.alloc (.cells (madeCells z.cells (m.toNat * info.size)) e)) (by simp)
            (fun g hg => heap_alloc_old w _ g hg) rfl rfl rfl (fun g hg => by cases hg; exact Nat.le_refl _) ?_
          · refine ⟨_, _, _, _, imm, .inl ?_, hK, st.2, st.1, ⟨upd_same _ _ _, .inr ⟨_, _, _, rfl⟩⟩⟩
            simp [execOp, ho, h2, h3, hr]
          · have hmn : n.toNat * size ≤ m.toNat * size := Nat.mul_le_mul_right _ (by omega)
            refine ⟨(madeCells z.cells (m.toNat * info.size)).toList.take (n.toNat * size), ⟨?_, .inr ⟨w.heap.size, m.toNat, madeCells z.cells (m.toNat * info.size), ?_, Nat.zero_le _, heap_alloc_new w _, ?_, ?_, ?_, ?_⟩⟩, ?_, ?_⟩
            · rw [List.length_take, Array.length_toList, size_madeCells, hlen, hsz]; omega
            · rw [hlen]
            · rw [hlen]; omega
            · simp only [maxLen]; omega
            · rw [size_madeCells, hsz]; exact Nat.le_refl _
            · rw [hlen]
            · intro y hy
              rw [List.eq_of_mem_replicate hy]; exact hxs
            · intro i j hi hj
              rw [hlen] at hi
              have e1 : (List.replicate n.toNat x).getD i .np = x := by simp [List.getD, hi]
              have hk : i * size + j < n.toNat * size := by
                have := Nat.mul_le_mul_right size (Nat.succ_le_of_lt hi); rw [Nat.succ_mul] at this; omega
              have e2 : ((madeCells z.cells (m.toNat * info.size)).toList.take (n.toNat * size)).getD (i * size + j) undef = (madeCells z.cells (m.toNat * info.size)).getD (i * size + j) undef := by
                rw [List.getD_eq_getElem?_getD, List.getElem?_take, if_pos hk, Array.getD_eq_getD_getElem?, Array.getElem?_toList]
              rw [e1, e2, hcells i j hj (by omega)]
              exact (c2 j (by omega)).mono fun g hg => ⟨hg, heap_alloc_old w _ g (I.lt g hg)⟩
        · exact hK.elim
      · exact hK.elim
    · exact hK.elim
  · exact hK.elim

theorem op_max {args : Array Operand} {ts : Array TypeId} (ho : o.op = .call { callee := .builtin .max, args := args, argTypes := ts }) (hK : opR Ω E draw ev h o.op id K) : Done ι imm h w K ((execOp ρ o).run P w) := by
  rw [ho] at hK
  simp only [opR] at hK
  split at hK
  · rename_i k n k' m ha
    obtain ⟨a, b, rfl, h1, h2⟩ := args_two ha
    obtain ⟨rfl, hK⟩ := hK
    have r1 := he a
    have r2 := he b
    rw [h1] at r1
    rw [h2] at r2
    have e1 := repI r1
    have e2 := repI r2
    refine Done.val (v := .int k (Ω .imax n m)) I ?_ hK (RepC.i _ _)
    simp [execOp, ho, resolve, invoke, builtin, Builtin.max_, Builtin.max2, e1, e2, w_imax]
  · exact hK.elim
theorem op_min {args : Array Operand} {ts : Array TypeId} (ho : o.op = .call { callee := .builtin .min, args := args, argTypes := ts }) (hK : opR Ω E draw ev h o.op id K) : Done ι imm h w K ((execOp ρ o).run P w) := by
  rw [ho] at hK
  simp only [opR] at hK
  split at hK
  · rename_i k n k' m ha
    obtain ⟨a, b, rfl, h1, h2⟩ := args_two ha
    obtain ⟨rfl, hK⟩ := hK
    have r1 := he a
    have r2 := he b
    rw [h1] at r1
    rw [h2] at r2
    have e1 := repI r1
    have e2 := repI r2
    refine Done.val (v := .int k (Ω .imin n m)) I ?_ hK (RepC.i _ _)
    simp [execOp, ho, resolve, invoke, builtin, Builtin.min_, Builtin.min2, e1, e2, w_imin]
  · exact hK.elim

end
end Go.K
end
section
/-
  K, part 11: append, and what is built.
-/
namespace Go.K
open Go
set_option linter.unusedSectionVars false
set_option linter.unusedVariables false
set_option linter.unusedSimpArgs false

section
variable {ι : Nat → Option Value} {imm : Nat → Prop} {h : Heap} {w : World} {K : Out → Prop}
variable {P : Program} {E : Env} {draw : Bool} {ev : Operand → V} {ρ : Operand → Value} {o : Oper} {id : Nat}

theorem split_ix {k n size : Nat} (hs : 0 < size) (h : k < n * size) : k / size < n ∧ k % size < size ∧ (k / size) * size + k % size = k :=
  ⟨(Nat.div_lt_iff_lt_mul hs).2 h, Nat.mod_lt _ hs, by rw [Nat.mul_comm]; exact Nat.div_add_mod k size⟩

theorem src_cells {ys : List D} {a : Option Addr} {n c size : Nat} (hr : RepC imm w (.sl ys) (.slice a n c)) (hu : ∀ u, u ∈ ys → u.cells.length = size) (hs : 0 < size) (hne : ys ≠ []) :
    ∃ (ad : Addr) (news : List Value), a = some ad ∧ n = ys.length ∧ news.length = ys.length * size ∧ (∀ j v, news[j]? = some v → w.cell? (ad.add j) = some v) ∧ (∀ u, u ∈ news → u.oneCell' = true) ∧
      ∀ i j, i < ys.length → j < size → RepC imm w ((ys.getD i .np).cells.getD j .np) (news.getD (i * size + j) undef) := by
  cases hr with
  | sl0 => exact absurd rfl hne
  | sl _ g off cap sz cs T fr _ hi hg hc hs' hb hr =>
    have hsz : sz = size := by
      cases ys with
      | nil => exact absurd rfl hne
      | cons a r => exact (hs' a (by simp)).symm.trans (hu a (by simp))
    subst hsz
    refine ⟨⟨g, off, none⟩, (List.range (ys.length * sz)).map fun k => cs.getD (off + k) undef, rfl, rfl, by simp, ?_, ?_, ?_⟩
    · intro j v hj
      have hlt : j < ys.length * sz := by
        have := (List.getElem?_eq_some_iff.1 hj).1; simpa using this
      obtain ⟨a1, a2, a3⟩ := split_ix hs hlt
      have hb' := hb _ _ a1 a2
      rw [a3] at hb'
      rw [addr_add]
      simp only [List.getElem?_map, List.getElem?_range hlt, Option.map_some, Option.some.injEq] at hj
      subst hj
      simp [World.cell?, hg, Array.getD, hb']
    · intro u hm
      simp only [List.mem_map, List.mem_range] at hm
      obtain ⟨k, hk, rfl⟩ := hm
      obtain ⟨a1, a2, a3⟩ := split_ix hs hk
      have := (hr _ _ a1 a2).one
      rw [a3] at this
      exact this
    · intro i j hi' hj
      have hk : i * sz + j < ys.length * sz := by
        have := Nat.mul_le_mul_right sz (Nat.succ_le_of_lt hi'); rw [Nat.succ_mul] at this; omega
      have e : ((List.range (ys.length * sz)).map fun k => cs.getD (off + k) undef).getD (i * sz + j) undef = cs.getD (off + (i * sz + j)) undef := by
        rw [List.getD_eq_getElem?_getD, List.getElem?_map, List.getElem?_range hk]; rfl
      rw [e]
      exact hr i j hi' hj

/-- cells of two rows, one behind the other -/
theorem cells_append {xs ys : List D} {cx cy : List Value} {size : Nat} (hx : cx.length = xs.length * size)
    (h1 : ∀ i j, i < xs.length → j < size → RepC imm w ((xs.getD i .np).cells.getD j .np) (cx.getD (i * size + j) undef))
    (h2 : ∀ i j, i < ys.length → j < size → RepC imm w ((ys.getD i .np).cells.getD j .np) (cy.getD (i * size + j) undef)) :
    ∀ i j, i < (xs ++ ys).length → j < size → RepC imm w (((xs ++ ys).getD i .np).cells.getD j .np) ((cx ++ cy).getD (i * size + j) undef) := by
  intro i j hi hj
  by_cases c : i < xs.length
  · have e1 : (xs ++ ys).getD i .np = xs.getD i .np := by simp [List.getD, List.getElem?_append, c]
    have hk : i * size + j < cx.length := by
      have := Nat.mul_le_mul_right size (Nat.succ_le_of_lt c); rw [Nat.succ_mul] at this; omega
    have e2 : (cx ++ cy).getD (i * size + j) undef = cx.getD (i * size + j) undef := by simp [List.getD, List.getElem?_append, hk]
    rw [e1, e2]; exact h1 i j c hj
  · have hi' : i - xs.length < ys.length := by simp at hi; omega
    have e1 : (xs ++ ys).getD i .np = ys.getD (i - xs.length) .np := by simp [List.getD, List.getElem?_append, c]
    have hm : i * size = xs.length * size + (i - xs.length) * size := by rw [← Nat.add_mul]; congr 1; omega
    have hk : ¬ i * size + j < cx.length := by rw [hx, hm]; omega
    have e2 : (cx ++ cy).getD (i * size + j) undef = cy.getD ((i - xs.length) * size + j) undef := by
      have : i * size + j - cx.length = (i - xs.length) * size + j := by rw [hx, hm]; omega
      simp [List.getD, List.getElem?_append, hk, this]
    rw [e1, e2]; exact h2 _ j hi' hj

/-- nothing is appended -/
theorem run_append_nothing {T ty e : TypeId} {info : TypeInfo} (hu : P.underlying T = some (.slice e)) (hi : P.info? e = some info) (base b : Option Addr) (n cap c : Nat) (hc : n ≤ cap) :
    (Builtin.append_ #[T, T] ty #[.slice base n cap, .slice b 0 c]).run P w = .ok (.slice base n cap) w := by
  have hf : (Builtin.firstCells info.size 0 (.slice b 0 c)).run P w = .ok #[] w := by
    cases b with
    | none => simp [Builtin.firstCells]
    | some b => simp [Builtin.firstCells, loadCells, loadCellsFrom]
  cases base with
  | none => simp [Builtin.append_, run_underlying hu, sizeOf, typeInfo, hi, Builtin.lenOf, hc, hf]
  | some a => simp [Builtin.append_, run_underlying hu, sizeOf, typeInfo, hi, Builtin.lenOf, hc, hf, storeCells]

/-- elements of one cell are put in the place of others -/
theorem row_copy {xs zs : List D} {cur cs : List Value} {off : Nat} (hf : off + zs.length ≤ xs.length) (hcs : xs.length ≤ cur.length) (hl : cs.length = zs.length)
    (hx : ∀ i, i < xs.length → RepC imm w ((xs.getD i .np).cells.getD 0 .np) (cur.getD i undef))
    (hz : ∀ i, i < zs.length → RepC imm w ((zs.getD i .np).cells.getD 0 .np) (cs.getD i undef)) :
    ∀ i, i < xs.length → RepC imm w (((xs.take off ++ zs ++ xs.drop (off + zs.length)).getD i .np).cells.getD 0 .np) ((cur.take off ++ cs ++ cur.drop (off + zs.length)).getD i undef) := by
  intro i hi
  have l1 : (xs.take off).length = off := by rw [List.length_take]; omega
  have l2 : (cur.take off).length = off := by rw [List.length_take]; omega
  have h1 := hx i hi
  have ea : (xs.take off ++ zs ++ xs.drop (off + zs.length)).getD i .np = if i < off then xs.getD i .np else if i < off + zs.length then zs.getD (i - off) .np else xs.getD i .np := by
    simp only [List.getD_eq_getElem?_getD, List.getElem?_append, l1, List.length_append, List.getElem?_take, List.getElem?_drop]
    by_cases a : i < off
    · have : i < off + zs.length := by omega
      simp [a, this]
    · by_cases b : i < off + zs.length
      · simp [a, b]
      · have e : off + zs.length + (i - (off + zs.length)) = i := by omega
        simp [a, b, e]
  have eb : (cur.take off ++ cs ++ cur.drop (off + zs.length)).getD i undef = if i < off then cur.getD i undef else if i < off + zs.length then cs.getD (i - off) undef else cur.getD i undef := by
    simp only [List.getD_eq_getElem?_getD, List.getElem?_append, l2, List.length_append, hl, List.getElem?_take, List.getElem?_drop]
    by_cases a : i < off
    · have : i < off + zs.length := by omega
      simp [a, this]
    · by_cases b : i < off + zs.length
      · simp [a, b]
      · have e : off + zs.length + (i - (off + zs.length)) = i := by omega
        simp [a, b, e]
  rw [ea, eb]
  by_cases a : i < off
  · rw [if_pos a, if_pos a]; exact h1
  · rw [if_neg a, if_neg a]
    by_cases b : i < off + zs.length
    · rw [if_pos b, if_pos b]; exact hz _ (by omega)
    · rw [if_neg b, if_neg b]; exact h1

variable (I : Inv ι imm h w) (tt : TTok P E.tt) (he : ∀ x, RepV ι imm w (ev x) (ρ x))
include I tt he

theorem op_append {args : Array Operand} {ts : Array TypeId} (ho : o.op = .call { callee := .builtin .append, args := args, argTypes := ts }) (hK : opR Ω E draw ev h o.op id K) : Done ι imm h w K ((execOp ρ o).run P w) := by
  rw [ho] at hK
  simp only [opR, w_slen, w_sget, w_ssub, w_sset, w_srep, w_scat, BrG_eq, DK_eq, w_ci, w_iand, w_ior, w_ixor, w_ishl, w_ishr, w_wrap, w_tmod, w_lt, w_le, w_eq, w_ne, w_ile, w_ilt, w_tn, w_nadd, w_nsub, w_nlt, w_leb, w_room, w_imax, w_imin] at hK
  split at hK
  · rename_i hb _ _; cases hb
  · rename_i x y T U _ ha hts
    obtain ⟨a, b, rfl, rfl, rfl⟩ := args_two ha
    obtain rfl := types_two hts
    have h1 := he a
    have h1b := he b
    split at hK
    · rename_i s1 s2 s3 e ht
      have hT := tt _ _ ht
      split at hK
      · rename_i size bytes z und hte
        have hE := tt _ _ hte
        obtain ⟨rfl, hzl, hpos, hK⟩ := hK
        split at hK
        · rename_i ys hy
          obtain ⟨hid, huy, hK⟩ := hK
          obtain ⟨info, i1, i2, i3, i4⟩ := hE.ok
          have hzs := (hE.zero z rfl).1
          have hsz : info.size = size := i2
          have hby : info.bytes = bytes := i3
          obtain ⟨imm1, I1, E1⟩ := Inv.freezeL (idsOf (ev b)) I
          have hrep := toD_rep I1 (fun i hi l e z xs hx => freezeL_done h _ i hi l e z xs hx) (h1b.evo I E1) hy
          have hbv : ∃ ba c, ρ b = .slice ba ys.length c ∧ RepC imm1 w (.sl ys) (.slice ba ys.length c) := by
            have hrep' : RepV ι imm1 w (.d (.sl ys)) (ρ b) := hrep
            obtain ⟨ba, c, q1, q2⟩ := repSl hrep'
            exact ⟨ba, c, q1, q2⟩
          obtain ⟨ba, c, hb1, hb2⟩ := hbv
          have hid1 : ups h (freezeL h (idsOf (ev b))) id = none := by
            rcases freezeL_same h (idsOf (ev b)) id with q | ⟨l', e', z', xs', q1, q2⟩
            · exact q.trans hid
            · rw [hid] at q1; cases q1
          have fin : ∀ v, (Builtin.append_ #[T, T] o.type #[ρ a, ρ b]).run P w = .ok v w → (execOp ρ o).run P w = .ok (.value v) w := fun v hr => by
            simp [execOp, ho, resolve, invoke, builtin, hr]
          have fin' : ∀ v w', (Builtin.append_ #[T, T] o.type #[ρ a, ρ b]).run P w = .ok v w' → (execOp ρ o).run P w = .ok (.value v) w' := fun v w' hr => by
            simp [execOp, ho, resolve, invoke, builtin, hr]
          split at hK
          · -- onto nil
            rename_i hx
            rw [hx] at h1
            have h2 : ρ a = .slice none 0 0 := h1
            obtain ⟨⟨hbytes, hlen⟩, hK⟩ := hK
            have hbytes' := hbytes
            by_cases hne : ys = []
            · subst hne
              have hr := run_append_nothing (w := w) (ty := o.type) hT.und i1 none ba 0 0 c (Nat.le_refl _)
              have st := I1.fresh hid1 (.slice none 0 0) (.row true e size []) (w' := w) (Nat.le_refl _) (fun _ _ => rfl) rfl rfl rfl (fun g hg => by cases hg)
                ⟨[], rowOwn_nil w 0 e size, fun _ q => absurd q List.not_mem_nil, fun _ _ q => absurd q (Nat.not_lt_zero _)⟩
              refine ⟨_, _, _, _, imm1, .inl (fin _ (by rw [h2, hb1]; exact hr)), hK, E1.trans st.2, st.1, ⟨upd_same _ _ _, .inl rfl⟩⟩
            · obtain ⟨ad, news, rfl, _, hnl, hnews, hone, hcell⟩ := src_cells hb2 huy hpos hne
              have hpl : 0 < ys.length := List.length_pos_iff.2 hne
              have hr := run_append_nil (P := P) w T o.type e info z hT.und i1 i4 ad ys.length c news (by rw [hsz]; exact hnl) hnews hpl (by omega) (by rw [hby]; omega)
              have hgc := grownCap_ge w ys.length 0 e
              have hgm : grownCap w ys.length 0 e ≤ maxLen := grownCap_le_maxLen w _ _ e (by simp only [maxLen]; omega)
              have st := I1.fresh hid1 (.slice (some ⟨w.heap.size, 0, none⟩) ys.length (grownCap w ys.length 0 e)) (.row true e size ys)
                (w' := w.drew.alloc (.cells (news.toArray ++ Builtin.zeroCells z.cells (grownCap w ys.length 0 e - ys.length)) e)) (by simp)
                (fun g hg => heap_alloc_old w.drew _ g hg) rfl rfl rfl (fun g hg => by cases hg; exact Nat.le_refl _) ?_
              · exact ⟨_, _, _, _, imm1, .inl (fin' _ _ (by rw [h2, hb1]; exact hr)), hK, E1.trans st.2, st.1, ⟨upd_same _ _ _, .inr ⟨_, _, _, rfl⟩⟩⟩
              · refine ⟨news, ⟨hnl, .inr ⟨w.heap.size, _, _, rfl, Nat.zero_le _, heap_alloc_new w.drew _, hgc, hgm, ?_, ?_⟩⟩, huy, fun i j hi hj => RepC.mono (w := w) (fun g hg => ⟨hg, heap_alloc_old w.drew _ g (I1.lt g hg)⟩) (hcell i j hi hj)⟩
                · refine Nat.le_of_eq (Eq.symm ?_)
                  rw [Array.size_append, List.size_toArray, size_zeroCells, hnl, hzs, ← Nat.add_mul]
                  congr 1; omega
                · rw [Array.toList_append, ← hnl]; exact List.take_left
          · -- onto the call's own
            rename_i j sz hx
            rw [hx] at h1
            split at hK
            · rename_i e' z' xs hj
              obtain ⟨rfl, rfl, ⟨hbytes, hlen⟩, hnj, hK⟩ := hK
              have hj1 : ups h (freezeL h (idsOf (ev b))) j = some (.row true e' z' xs) := (freezeL_other h _ j hnj).trans hj
              have h1' : RepV ι imm1 w (.own j sz) (ρ a) := h1.evo I E1
              obtain ⟨hιj, hblk, hform⟩ := own_form I1 hj1 h1'
              obtain ⟨cells, ho', hux, hcx⟩ := hblk
              have hinv : BlkRep ι imm1 w (.row true e' z' xs) (ρ a) := ⟨cells, ho', hux, hcx⟩
              -- the new row's value, wherever it lies
              rcases hform with ⟨h2, hxs⟩ | ⟨g, cap, h2, hcap⟩
              · -- it was nil
                subst hxs
                simp only [List.nil_append] at hK
                have g1 := I1.giveUp hj1
                have hid2 : upd (ups h (freezeL h (idsOf (ev b)))) j (some Blk.dead) id = none := by
                  rw [upd_other _ _ _ _ (fun q => by subst q; rw [hid1] at hj1; cases hj1)]; exact hid1
                by_cases hne : ys = []
                · subst hne
                  have hr := run_append_nothing (w := w) (ty := o.type) hT.und i1 none ba 0 0 c (Nat.le_refl _)
                  have st := g1.1.fresh hid2 (.slice none 0 0) (.row true e' z' []) (w' := w) (Nat.le_refl _) (fun _ _ => rfl) rfl rfl rfl (fun g hg => by cases hg)
                    ⟨[], rowOwn_nil w 0 e' z', fun _ q => absurd q List.not_mem_nil, fun _ _ q => absurd q (Nat.not_lt_zero _)⟩
                  refine ⟨_, _, _, _, imm1, .inl (fin _ (by rw [h2, hb1]; exact hr)), hK, E1.trans (g1.2.trans st.2), st.1, ⟨upd_same _ _ _, .inl rfl⟩⟩
                · obtain ⟨ad, news, rfl, _, hnl, hnews, hone, hcell⟩ := src_cells hb2 huy hpos hne
                  have hpl : 0 < ys.length := List.length_pos_iff.2 hne
                  have hr := run_append_nil (P := P) w T o.type e' info z hT.und i1 i4 ad ys.length c news (by rw [hsz]; exact hnl) hnews hpl (by simp at hlen; omega) (by rw [hby]; simp at hbytes; omega)
                  have hgc := grownCap_ge w ys.length 0 e'
                  have hgm : grownCap w ys.length 0 e' ≤ maxLen := grownCap_le_maxLen w _ _ e' (by simp only [maxLen]; simp at hlen; omega)
                  have st := g1.1.fresh hid2 (.slice (some ⟨w.heap.size, 0, none⟩) ys.length (grownCap w ys.length 0 e')) (.row true e' z' ys)
                    (w' := w.drew.alloc (.cells (news.toArray ++ Builtin.zeroCells z.cells (grownCap w ys.length 0 e' - ys.length)) e')) (by simp)
                    (fun g hg => heap_alloc_old w.drew _ g hg) rfl rfl rfl (fun g hg => by cases hg; exact Nat.le_refl _) ?_
                  · exact ⟨_, _, _, _, imm1, .inl (fin' _ _ (by rw [h2, hb1]; exact hr)), hK, E1.trans (g1.2.trans st.2), st.1, ⟨upd_same _ _ _, .inr ⟨_, _, _, rfl⟩⟩⟩
                  · refine ⟨news, ⟨hnl, .inr ⟨w.heap.size, _, _, rfl, Nat.zero_le _, heap_alloc_new w.drew _, hgc, hgm, ?_, ?_⟩⟩, huy, fun i j hi hj => RepC.mono (w := w) (fun g hg => ⟨hg, heap_alloc_old w.drew _ g (I1.lt g hg)⟩) (hcell i j hi hj)⟩
                    · refine Nat.le_of_eq (Eq.symm ?_)
                      rw [Array.size_append, List.size_toArray, size_zeroCells, hnl, hzs, ← Nat.add_mul]
                      congr 1; omega
                    · rw [Array.toList_append, ← hnl]; exact List.take_left
              · rw [h2] at hιj ho'
                have hhere : ∃ cur, w.heap[g]? = some (.cells cur e' (0, 0)) ∧ cap ≤ maxLen ∧ cap * z' ≤ cur.size ∧ cur.toList.take (xs.length * z') = cells := by
                  rcases ho'.2 with ⟨q, _⟩ | ⟨g', cap', cur, q, _, q2, _, q4, q5, q6⟩
                  · cases q
                  · cases q; exact ⟨cur, q2, q4, q5, q6⟩
                obtain ⟨cur, hg, hcm, hcs, htake⟩ := hhere
                have hcl : cells.length = xs.length * z' := ho'.1
                have hux' : ∀ u, u ∈ xs ++ ys → u.cells.length = z' := fun u hu => by
                  rcases List.mem_append.1 hu with q | q
                  · exact hux u q
                  · exact huy u q
                -- the source's cells, none if there are no elements
                have hsrc : ∃ (ad : Addr) (news : List Value), (ys ≠ [] → ba = some ad) ∧ news.length = ys.length * z' ∧ (∀ j v, news[j]? = some v → w.cell? (ad.add j) = some v) ∧ (∀ u, u ∈ news → u.oneCell' = true) ∧
                    ∀ i j, i < ys.length → j < z' → RepC imm1 w ((ys.getD i .np).cells.getD j .np) (news.getD (i * z' + j) undef) := by
                  by_cases hne : ys = []
                  · subst hne
                    exact ⟨⟨0, 0, none⟩, [], fun q => absurd rfl q, by simp, fun j v q => by simp at q, fun _ q => absurd q List.not_mem_nil, fun _ _ q => absurd q (Nat.not_lt_zero _)⟩
                  · obtain ⟨ad, news, q1, _, q3, q4, q5, q6⟩ := src_cells hb2 huy hpos hne
                    exact ⟨ad, news, fun _ => q1, q3, q4, q5, q6⟩
                obtain ⟨ad, news, hba, hnl, hnews, hone, hcell⟩ := hsrc
                have hall := cells_append (w := w) (imm := imm1) hcl hcx hcell
                by_cases hroom : xs.length + ys.length ≤ cap
                · -- there is room
                  have hfit : xs.length * z' + news.length ≤ cur.size := by rw [hnl, ← Nat.add_mul]; exact Nat.le_trans (Nat.mul_le_mul_right _ hroom) hcs
                  have hr : (Builtin.append_ #[T, T] o.type #[.slice (some ⟨g, 0, none⟩) xs.length cap, .slice ba ys.length c]).run P w =
                      .ok (.slice (some ⟨g, 0, none⟩) (xs.length + ys.length) cap) (w.setRow g (cur.toList.take (xs.length * z') ++ news ++ cur.toList.drop (xs.length * z' + news.length)).toArray) := by
                    by_cases hne : ys = []
                    · subst hne
                      have hn0 : news = [] := List.eq_nil_of_length_eq_zero (by simpa using hnl)
                      subst hn0
                      rw [List.length_nil, run_append_nothing (w := w) hT.und i1 _ ba _ cap c hcap]
                      simp only [List.append_nil, List.length_nil, Nat.add_zero, List.take_append_drop, Array.toArray_toList]
                      rw [setRow_self w g cur e' (0, 0) hg]
                    · rw [hba hne]
                      have := run_append_room (P := P) w T o.type e' info hT.und i1 g xs.length cap cur hg ad ys.length c news (by rw [hsz]; exact hnl) hnews hone hroom (by rw [hsz]; exact hfit)
                      rw [hsz] at this
                      exact this
                  have hmono : ∀ g', imm1 g' → imm1 g' ∧ (w.setRow g (cur.toList.take (xs.length * z') ++ news ++ cur.toList.drop (xs.length * z' + news.length)).toArray).heap[g']? = w.heap[g']? := fun g' hg' =>
                    ⟨hg', setRow_other w g g' _ (fun q => by subst q; exact I1.own g' ⟨j, _, _, hj1, rfl, hιj, rfl⟩ hg')⟩
                  have st := I1.moved hj1 rfl hιj rfl hid1 (v := .slice (some ⟨g, 0, none⟩) (xs.length + ys.length) cap) (B := .row true e' z' (xs ++ ys))
                    (w' := w.setRow g (cur.toList.take (xs.length * z') ++ news ++ cur.toList.drop (xs.length * z' + news.length)).toArray) (by simp)
                    (fun k _ hk => setRow_other w g k _ (fun q => by subst q; exact hk rfl)) rfl rfl rfl rfl ?_
                  · exact ⟨_, _, _, _, imm1, .inl (fin' _ _ (by rw [h2, hb1]; exact hr)), hK, E1.trans st.2, st.1, ⟨upd_same _ _ _, .inr ⟨_, _, _, rfl⟩⟩⟩
                  · refine ⟨cells ++ news, ⟨?_, .inr ⟨g, cap, _, ?_, Nat.zero_le _, setRow_heap w g cur _ e' _ hg, ?_, hcm, ?_, ?_⟩⟩, hux', fun i k hi hk => (hall i k hi hk).mono hmono⟩
                    · rw [List.length_append, hcl, hnl, List.length_append, Nat.add_mul]
                    · rw [List.length_append]
                    · rw [List.length_append]; exact hroom
                    · simp only [List.size_toArray, List.length_append, List.length_take, List.length_drop, Array.length_toList]; omega
                    · rw [htake, List.length_append, Nat.add_mul, ← hcl, ← hnl, ← List.length_append]
                      exact List.take_left
                · -- it grows
                  have hne : ys ≠ [] := fun q => by subst q; simp at hroom; omega
                  have holds : ∀ j v, cells[j]? = some v → w.cell? ((⟨g, 0, none⟩ : Addr).add j) = some v := fun k v q => by
                    rw [addr_add, Nat.zero_add]
                    rw [← htake, List.getElem?_take] at q
                    split at q
                    · rw [cell_of_row w g k cur e' (0, 0) hg]; simpa using q
                    · cases q
                  have hr := run_append_grow (P := P) w T o.type e' info z hT.und i1 i4 ⟨g, 0, none⟩ xs.length cap cells (by rw [hsz]; exact hcl) holds ad ys.length c news (by rw [hsz]; exact hnl) hnews (by omega) (by omega)
                    (growslice_fits (by omega) (by rw [hby]; exact hbytes))
                  have hgc := grownCap_ge w (xs.length + ys.length) cap e'
                  have hgm : grownCap w (xs.length + ys.length) cap e' ≤ maxLen := grownCap_le_maxLen w _ _ e' (by simp only [maxLen]; omega)
                  have g1 := I1.giveUp hj1
                  have hid2 : upd (ups h (freezeL h (idsOf (ev b)))) j (some Blk.dead) id = none := by
                    rw [upd_other _ _ _ _ (fun q => by subst q; rw [hid1] at hj1; cases hj1)]; exact hid1
                  have st := g1.1.fresh hid2 (.slice (some ⟨w.heap.size, 0, none⟩) (xs.length + ys.length) (grownCap w (xs.length + ys.length) cap e')) (.row true e' z' (xs ++ ys))
                    (w' := w.drew.alloc (.cells (cells.toArray ++ news.toArray ++ Builtin.zeroCells z.cells (grownCap w (xs.length + ys.length) cap e' - (xs.length + ys.length))) e')) (by simp)
                    (fun g hg => heap_alloc_old w.drew _ g hg) rfl rfl rfl (fun g hg => by cases hg; exact Nat.le_refl _) ?_
                  · exact ⟨_, _, _, _, imm1, .inl (fin' _ _ (by rw [h2, hb1, hba hne]; exact hr)), hK, E1.trans (g1.2.trans st.2), st.1, ⟨upd_same _ _ _, .inr ⟨_, _, _, rfl⟩⟩⟩
                  · refine ⟨cells ++ news, ⟨?_, .inr ⟨w.heap.size, _, _, ?_, Nat.zero_le _, heap_alloc_new w.drew _, ?_, hgm, ?_, ?_⟩⟩, hux', fun i k hi hk => RepC.mono (w := w) (fun g hg => ⟨hg, heap_alloc_old w.drew _ g (I1.lt g hg)⟩) (hall i k hi hk)⟩
                    · rw [List.length_append, hcl, hnl, List.length_append, Nat.add_mul]
                    · rw [List.length_append]
                    · rw [List.length_append]; exact hgc
                    · refine Nat.le_of_eq (Eq.symm ?_)
                      rw [Array.size_append, Array.size_append, List.size_toArray, List.size_toArray, size_zeroCells, hcl, hnl, hzs, ← Nat.add_mul]
                      show _ * z' + _ * z' = _
                      rw [← Nat.add_mul]
                      congr 1; omega
                    · rw [Array.toList_append, Array.toList_append, List.length_append, Nat.add_mul, ← hcl, ← hnl, ← List.length_append]
                      exact List.take_left
            · exact hK.elim
          · exact hK.elim
        · exact hK.elim
      · exact hK.elim
    · exact hK.elim
  · exact hK.elim

theorem op_copy {args : Array Operand} {ts : Array TypeId} (ho : o.op = .call { callee := .builtin .copy, args := args, argTypes := ts }) (hK : opR Ω E draw ev h o.op id K) : Done ι imm h w K ((execOp ρ o).run P w) := by
  rw [ho] at hK
  simp only [opR, w_slen, w_sget, w_ssub, w_sset, w_srep, w_scat, w_scpy, BrG_eq, DK_eq, w_ci, w_iand, w_ior, w_ixor, w_ishl, w_ishr, w_wrap, w_tmod, w_lt, w_le, w_eq, w_ne, w_ile, w_ilt, w_tn, w_nadd, w_nsub, w_nlt, w_leb, w_room, w_imax, w_imin] at hK
  obtain ⟨_, hK⟩ := hK
  split at hK
  · rename_i j sz off len y T U ha hts
    obtain ⟨a, b, rfl, hx, rfl⟩ := args_two ha
    obtain rfl := types_two hts
    have h1 := he a
    have h1b := he b
    rw [hx] at h1
    split at hK
    · rename_i s1 s2 s3 e e' z xs ys ht hj hy
      have hT := tt _ _ ht
      split at hK
      · rename_i i hte
        have hE := tt _ _ hte
        obtain ⟨hi1, rfl, rfl, huy, hnj, hfit, hK⟩ := hK
        obtain ⟨info, i1, i2, i3, i4⟩ := hE.ok
        have hsz : (P.info? e).map (·.size) = some 1 := by rw [i1]; simp [i2, hi1]
        obtain ⟨imm1, I1, E1⟩ := Inv.freezeL (idsOf (ev b)) I
        have hrep := toD_rep I1 (fun i hi l e z xs hx => freezeL_done h _ i hi l e z xs hx) (h1b.evo I E1) hy
        obtain ⟨ba, c, hb1, hb2⟩ : ∃ ba c, ρ b = .slice ba ys.length c ∧ RepC imm1 w (.sl ys) (.slice ba ys.length c) := by
          have hrep' : RepV ι imm1 w (.d (.sl ys)) (ρ b) := hrep
          obtain ⟨ba, c, q1, q2⟩ := repSl hrep'
          exact ⟨ba, c, q1, q2⟩
        have fin' : ∀ v w', (Builtin.copy_ #[T, U] o.type #[ρ a, ρ b]).run P w = .ok v w' → (execOp ρ o).run P w = .ok (.value v) w' := fun v w' hr => by
          simp [execOp, ho, resolve, invoke, builtin, hr]
        have hj1 : ups h (freezeL h (idsOf (ev b))) j = some (.row true e' 1 xs) := (freezeL_other h _ j hnj).trans hj
        have hfit' : off + len ≤ xs.length := by simpa using hfit
        have hsl : (List.take len (List.drop 0 ys)).length = Nat.min len ys.length := by simp [Nat.min_def]
        have hmin : ((if (ys.length : Int) < (len : Int) then (ys.length : Int) else (len : Int)) : Int) = ((Nat.min ys.length len : Nat) : Int) := by
          simp only [Nat.min_def]; split <;> split <;> omega
        by_cases h0 : Nat.min ys.length len = 0
        · -- nothing is copied
          have hz : (List.take len (List.drop 0 ys)).length = 0 := by rw [hsl]; simp only [Nat.min_def] at h0 ⊢; split <;> split at h0 <;> omega
          have hn := List.eq_nil_of_length_eq_zero hz
          have hnew : xs.take off ++ List.take len (List.drop 0 ys) ++ xs.drop (off + (List.take len (List.drop 0 ys)).length) = xs := by
            rw [hn]; simp
          rw [hnew] at hK
          have hself : upd (ups h (freezeL h (idsOf (ev b)))) j (some (.row true e' 1 xs)) = ups h (freezeL h (idsOf (ev b))) := by
            funext t; by_cases c : t = j
            · subst c; rw [upd_same, hj1]
            · rw [upd_other _ _ _ _ c]
          have hda : ∃ d cc, ρ a = .slice d len cc := by
            rcases h1 with ⟨g, n, cap, cc, _, q, _⟩ | ⟨_, q, base, q2⟩
            · exact ⟨_, _, q⟩
            · exact ⟨base, 0, by rw [q2, q]⟩
          obtain ⟨d, cc, hda⟩ := hda
          have hr := run_copy_none (P := P) w T U o.type e d ba len cc ys.length c hT.und hsz h0
          refine ⟨_, _, _, ι, imm1, .inl (fin' _ _ (by rw [hda, hb1]; exact hr)), hK, ?_, ?_, ?_⟩
          · show Evo ι imm h w ι imm1 (upd (ups h (freezeL h (idsOf (ev b)))) j (some (.row true e' 1 xs))) w
            rw [hself]; exact E1
          · show Inv ι imm1 (upd (ups h (freezeL h (idsOf (ev b)))) j (some (.row true e' 1 xs))) w
            rw [hself]; exact I1
          · show RepC _ _ (.i .i64 (if (ys.length : Int) < (len : Int) then (ys.length : Int) else (len : Int))) (goInt 0)
            rw [hmin, h0]; exact .i _ _
        · have hne : ys ≠ [] := fun q => by subst q; simp [Nat.min_def] at h0
          have hlen0 : len ≠ 0 := fun q => by subst q; simp [Nat.min_def] at h0
          rcases h1 with ⟨g, n, cap, cc, hιj, hda, hcc, hcap⟩ | ⟨_, q, _⟩
          rotate_left
          · exact absurd q hlen0
          obtain ⟨ad, news, rfl, _, hnl, hnews, hone, hcell⟩ := src_cells hb2 huy (Nat.one_pos) hne
          obtain ⟨v', h4, cells, ho', h6, h7⟩ := I1.blk j _ hj1
          have h2' := E1.ids _ _ hιj
          rw [h2'] at h4; cases h4
          rcases ho'.2 with ⟨q, _⟩ | ⟨g', cap', cur, q, hb0, h8, h9, hcm, h10, h11⟩
          · cases q
          cases q
          have hzl : (List.take len (List.drop 0 ys)).length ≤ ys.length := by rw [hsl]; exact Nat.min_le_right _ _
          have hnl' : news.length = ys.length := by rw [hnl, Nat.mul_one]
          have hcl : (news.take (List.take len (List.drop 0 ys)).length).length = (List.take len (List.drop 0 ys)).length := by rw [List.length_take]; omega
          have hzle : (List.take len (List.drop 0 ys)).length ≤ len := by rw [hsl]; exact Nat.min_le_left _ _
          have hcur : xs.length ≤ cur.size := by omega
          have hmm : (List.take len (List.drop 0 ys)).length = Nat.min ys.length len := by rw [hsl]; exact Nat.min_comm _ _
          have hr := run_copy_row P w T U o.type e g (off * 1) len cc ad ys.length c cur e' (news.take (List.take len (List.drop 0 ys)).length) hT.und hsz h8
            (by rw [hcl, hmm]) (fun k v q => hnews k v (by rw [List.getElem?_take] at q; split at q; exact q; cases q)) (by rw [hcl]; omega) (fun v q => hone v (List.mem_of_mem_take q))
          have hcx : ∀ i, i < xs.length → RepC imm1 w ((xs.getD i .np).cells.getD 0 .np) (cur.toList.getD i undef) := fun i hi => by
            have h := h7 i 0 hi (Nat.one_pos)
            have e2 : cells.getD (i * 1 + 0) undef = cur.toList.getD i undef := by
              rw [← h11]; simp [List.getD, hi]
            rw [← e2]; exact h
          have hcz : ∀ i, i < (List.take len (List.drop 0 ys)).length → RepC imm1 w (((List.take len (List.drop 0 ys)).getD i .np).cells.getD 0 .np) ((news.take (List.take len (List.drop 0 ys)).length).getD i undef) := fun i hi => by
            have h := hcell i 0 (by omega) (Nat.one_pos)
            have hi' : i < len := by omega
            have e1 : (List.take len (List.drop 0 ys)).getD i .np = ys.getD i .np := by simp [List.getD, hi']
            have e2 : (news.take (List.take len (List.drop 0 ys)).length).getD i undef = news.getD (i * 1 + 0) undef := by
              rw [List.getD_eq_getElem?_getD, List.getElem?_take, if_pos hi, List.getD_eq_getElem?_getD, Nat.mul_one, Nat.add_zero]
            rw [e1, e2]; exact h
          have hall := row_copy (w := w) (imm := imm1) (xs := xs) (zs := List.take len (List.drop 0 ys)) (cur := cur.toList) (off := off) (by omega) (by simpa using hcur) hcl hcx hcz
          rw [Nat.mul_one, hcl] at hr
          have hmono : ∀ g', imm1 g' → imm1 g' ∧ (w.setRow g (cur.toList.take off ++ news.take (List.take len (List.drop 0 ys)).length ++ cur.toList.drop (off + (List.take len (List.drop 0 ys)).length)).toArray).heap[g']? = w.heap[g']? := fun g' hg' =>
            ⟨hg', setRow_other w g g' _ (fun e'' => by subst e''; exact I1.own g' ⟨j, _, _, hj1, rfl, h2', rfl⟩ hg')⟩
          have hlen : (xs.take off ++ List.take len (List.drop 0 ys) ++ xs.drop (off + (List.take len (List.drop 0 ys)).length)).length = xs.length := by
            rw [List.length_append, List.length_append, List.length_drop, List.length_take]
            omega
          have st := I1.wrote hj1 rfl h2' (B := .row true e' 1 (xs.take off ++ List.take len (List.drop 0 ys) ++ xs.drop (off + (List.take len (List.drop 0 ys)).length)))
            (w' := w.setRow g (cur.toList.take off ++ news.take (List.take len (List.drop 0 ys)).length ++ cur.toList.drop (off + (List.take len (List.drop 0 ys)).length)).toArray) (by simp)
            (fun g' hg' => setRow_other w g g' _ (fun e'' => by subst e''; exact hg' rfl)) rfl rfl rfl ?_
          · refine ⟨_, _, _, ι, imm1, .inl (fin' _ _ (by rw [hda, hb1, Nat.mul_one]; exact hr)), hK, E1.trans st.2, st.1, ?_⟩
            show RepC _ _ (.i .i64 (if (ys.length : Int) < (len : Int) then (ys.length : Int) else (len : Int))) (goInt _)
            rw [hmin, hmm]; exact .i _ _
          · refine ⟨(cur.toList.take off ++ news.take (List.take len (List.drop 0 ys)).length ++ cur.toList.drop (off + (List.take len (List.drop 0 ys)).length)).take (xs.length * 1), ⟨?_, .inr ⟨g, cap, _, ?_, Nat.zero_le _, setRow_heap w g cur _ e' _ h8, ?_, hcm, ?_, ?_⟩⟩, ?_, ?_⟩
            · have hcul : cur.toList.length = cur.size := Array.length_toList
              rw [hlen, List.length_take, List.length_append, List.length_append, List.length_drop, List.length_take, hcl]; omega
            · rw [hlen]
            · rw [hlen]; exact h9
            · have hcul : cur.toList.length = cur.size := Array.length_toList
              rw [List.size_toArray, List.length_append, List.length_append, List.length_drop, List.length_take, hcl]; omega
            · rw [hlen]
            · intro x hx
              rcases List.mem_append.1 hx with hx | hx
              · rcases List.mem_append.1 hx with hx | hx
                · exact h6 x (List.mem_of_mem_take hx)
                · exact huy x (List.mem_of_mem_drop (List.mem_of_mem_take hx))
              · exact h6 x (List.mem_of_mem_drop hx)
            · intro a b ha hb
              rw [hlen] at ha
              obtain rfl : b = 0 := by omega
              have := (hall a ha).mono hmono
              have e3 : ((cur.toList.take off ++ news.take (List.take len (List.drop 0 ys)).length ++ cur.toList.drop (off + (List.take len (List.drop 0 ys)).length)).take (xs.length * 1)).getD (a * 1 + 0) undef =
                  (cur.toList.take off ++ news.take (List.take len (List.drop 0 ys)).length ++ cur.toList.drop (off + (List.take len (List.drop 0 ys)).length)).getD a undef := by
                rw [List.getD_eq_getElem?_getD, List.getElem?_take, if_pos (by omega), List.getD_eq_getElem?_getD, Nat.mul_one, Nat.add_zero]
              rw [e3]
              exact this
      · exact hK.elim
    · exact hK.elim
  · exact hK.elim

end
end Go.K
end
section
/-
  K, part 12: what is built.
-/
namespace Go.K
open Go
set_option linter.unusedSectionVars false
set_option linter.unusedVariables false
set_option linter.unusedSimpArgs false

theorem foldl_set_list (off : Nat) : ∀ (l : List Value) (k : Nat) (cs : Array Value),
    ((l.zipIdx k).foldl (fun cs (x : Value × Nat) => cs.setIfInBounds (off + x.2) x.1) cs).size = cs.size ∧
    ∀ m, ((l.zipIdx k).foldl (fun cs (x : Value × Nat) => cs.setIfInBounds (off + x.2) x.1) cs).getD m undef =
      if off + k ≤ m ∧ m < off + k + l.length ∧ m < cs.size then l.getD (m - (off + k)) undef else cs.getD m undef
  | [], k, cs => by
    refine ⟨rfl, fun m => ?_⟩
    rw [if_neg (by simp; omega)]
    rfl
  | a :: r, k, cs => by
    obtain ⟨h1, h2⟩ := foldl_set_list off r (k + 1) (cs.setIfInBounds (off + k) a)
    simp only [List.zipIdx_cons, List.foldl_cons]
    refine ⟨by rw [h1]; simp, fun m => ?_⟩
    rw [h2]
    have hs : (cs.setIfInBounds (off + k) a).size = cs.size := by simp
    rw [hs]
    by_cases c : off + (k + 1) ≤ m ∧ m < off + (k + 1) + r.length ∧ m < cs.size
    · rw [if_pos c, if_pos ⟨by omega, by simp; omega, by omega⟩]
      have : m - (off + k) = (m - (off + (k + 1))) + 1 := by omega
      rw [this]; rfl
    · rw [if_neg c]
      by_cases d : m = off + k ∧ m < cs.size
      · obtain ⟨rfl, d⟩ := d
        rw [if_pos ⟨Nat.le_refl _, by simp, d⟩, Nat.sub_self]
        simp [Array.getD, d]
      · rw [if_neg (by simp; omega)]
        simp only [Array.getD_eq_getD_getElem?, Array.getElem?_setIfInBounds]
        by_cases q : off + k = m
        · subst q
          have : ¬ off + k < cs.size := fun x => d ⟨rfl, x⟩
          simp [this]
        · simp [q]

theorem foldl_set (off : Nat) (vs : Array Value) (cs : Array Value) :
    (vs.zipIdx.foldl (fun cs (x : Value × Nat) => cs.setIfInBounds (off + x.2) x.1) cs).size = cs.size ∧
    ∀ m, (vs.zipIdx.foldl (fun cs (x : Value × Nat) => cs.setIfInBounds (off + x.2) x.1) cs).getD m undef =
      if off ≤ m ∧ m < off + vs.size ∧ m < cs.size then vs.getD (m - off) undef else cs.getD m undef := by
  have e : vs.zipIdx.foldl (fun cs (x : Value × Nat) => cs.setIfInBounds (off + x.2) x.1) cs = (vs.toList.zipIdx 0).foldl (fun cs (x : Value × Nat) => cs.setIfInBounds (off + x.2) x.1) cs := by
    rw [← Array.foldl_toList, Array.toList_zipIdx]
  obtain ⟨h1, h2⟩ := foldl_set_list off vs.toList 0 cs
  rw [e]
  refine ⟨h1, fun m => ?_⟩
  rw [h2]
  simp only [Nat.add_zero, Array.length_toList]
  have : vs.toList.getD (m - off) undef = vs.getD (m - off) undef := by simp [List.getD, Array.getD_eq_getD_getElem?]
  rw [this]

section
variable {ι : Nat → Option Value} {imm : Nat → Prop} {h : Heap} {w : World} {K : Out → Prop}
variable {P : Program} {E : Env} {draw : Bool} {ev : Operand → V} {ρ : Operand → Value} {o : Oper} {id : Nat}

theorem fill_rep (he : ∀ x, RepV ι imm w (ev x) (ρ x)) (place : Nat → Option (Nat × Nat)) : ∀ (ps : List (Nat × Operand)) (cv : List V) (cw : Array Value) (out : List V), cw.size = cv.length →
    (∀ j, j < cv.length → RepV1 ι imm w (cv.getD j .junk) (cw.getD j undef) ∧ (cw.getD j undef).oneCell' = true) → fillV place cv (ps.map fun p => (p.1, ev p.2)) = some out →
    ∃ cw', Instr.fill place cw (ps.map fun p => (p.1, ρ p.2)) = some cw' ∧ cw'.size = out.length ∧ ∀ j, j < out.length → RepV1 ι imm w (out.getD j .junk) (cw'.getD j undef) ∧ (cw'.getD j undef).oneCell' = true
  | [], cv, cw, out, hs, hc, ho => by
    cases ho
    exact ⟨cw, rfl, hs, hc⟩
  | (i, x) :: r, cv, cw, out, hs, hc, ho => by
    simp only [List.map_cons, fillV] at ho
    split at ho
    · cases ho
    · rename_i off size hp
      split at ho
      · rename_i l hl
        split at ho
        · rename_i hfit
          obtain ⟨c1, c2⟩ := cells_rep (he x) hl
          obtain ⟨f1, f2⟩ := foldl_set off (ρ x).cells cw
          have hlen : (cv.take off ++ l ++ cv.drop (off + l.length)).length = cv.length := by simp; omega
          have key := fill_rep he place r (cv.take off ++ l ++ cv.drop (off + l.length)) _ out (f1.trans (hs.trans hlen.symm)) (fun j hj => ?_) ho
          · obtain ⟨cw', k1, k2⟩ := key
            refine ⟨cw', ?_, k2⟩
            simp only [List.map_cons, Instr.fill, hp]
            have hcond : ¬ ((decide ((ρ x).cells.size ≠ size) || decide (off + (ρ x).cells.size > cw.size)) = true) := by
              have e1 : (ρ x).cells.size = size := by omega
              have e2 : ¬ off + (ρ x).cells.size > cw.size := by omega
              simp [e1]; omega
            rw [if_neg hcond]
            exact k1
          · rw [hlen] at hj
            rw [f2]
            have l1 : (cv.take off).length = off := by simp; omega
            have ea : (cv.take off ++ l ++ cv.drop (off + l.length)).getD j .junk = if j < off then cv.getD j .junk else if j < off + l.length then l.getD (j - off) .junk else cv.getD j .junk := by
              simp only [List.getD_eq_getElem?_getD, List.getElem?_append, l1, List.length_append, List.getElem?_take, List.getElem?_drop]
              by_cases a : j < off
              · have : j < off + l.length := by omega
                simp [a, this]
              · by_cases b : j < off + l.length
                · simp [a, b]
                · have e : off + l.length + (j - (off + l.length)) = j := by omega
                  simp [a, b, e]
            rw [ea]
            by_cases a : j < off
            · rw [if_pos a, if_neg (by omega)]; exact hc j hj
            · rw [if_neg a]
              by_cases b : j < off + l.length
              · rw [if_pos b, if_pos ⟨by omega, by omega, by omega⟩]; exact c2 (j - off) (by omega)
              · rw [if_neg b, if_neg (by omega)]; exact hc j hj
        · cases ho
      · cases ho

variable (I : Inv ι imm h w) (tt : TTok P E.tt) (he : ∀ x, RepV ι imm w (ev x) (ρ x))

theorem places_ok (tt : TTok P E.tt) : ∀ (fs : List Field) (pl : List (Nat × Nat)), places E.tt fs = some pl → fs.mapM (fun f => (P.info? f.type).map fun i => (f.offset, i.size)) = some pl
  | [], pl, h => by cases h; rfl
  | f :: r, pl, h => by
    simp only [places] at h
    split at h
    · rename_i i l hi hl
      cases h
      obtain ⟨info, h1, h2, _⟩ := (tt _ _ hi).ok
      have ih := places_ok tt r l hl
      simp [List.mapM_cons, h1, h2, ih]
    · cases h

include I tt he
theorem op_build {T : TypeId} {parts : Array (Nat × Operand)} (ho : o.op = .build T parts) (hK : opR Ω E draw ev h o.op id K) : Done ι imm h w K ((execOp ρ o).run P w) := by
  rw [ho] at hK
  simp only [opR, w_slen, w_sget, w_ssub, w_sset, w_srep, w_scat, BrG_eq, DK_eq, w_ci, w_iand, w_ior, w_ixor, w_ishl, w_ishr, w_wrap, w_tmod, w_lt, w_le, w_eq, w_ne, w_ile, w_ilt, w_tn, w_nadd, w_nsub, w_nlt, w_leb, w_room, w_imax, w_imin] at hK
  have fin : ∀ cells : Array Value, P.built T (parts.toList.map fun p => (p.1, ρ p.2)) = some cells → (execOp ρ o).run P w = .ok (.value (.agg cells)) w := fun cells hb => by
    have := run_build (P := P) w T (parts.map fun (i, x) => (i, ρ x)) cells (by simpa using hb)
    simp only [execOp, ho, Sem.run_bind, this, Result.andThen_ok, Sem.run_pure]
  split at hK
  · rename_i sz by' z fs ht
    have hT := tt _ _ ht
    split at hK
    · rename_i pl l hpl hl
      split at hK
      · rename_i cs hcs
        obtain ⟨c1, c2⟩ := cells_rep (constV_rep ι imm w z) hl
        obtain ⟨cw', k1, k2, k3⟩ := fill_rep he _ _ l z.cells cs c1 c2 hcs
        obtain ⟨info, i1, _, _, i4⟩ := hT.ok
        refine Done.val I (fin cw' ?_) hK (shape_rep k2 k3)
        have hu := hT.und
        simp only [Program.built, i1, hu, i4, places_ok tt _ _ hpl]
        have : (fun (x : Nat) => pl.toArray[x]?) = fun (i : Nat) => pl[i]? := by funext i; simp
        rw [this]
        exact k1
      · exact hK.elim
    · exact hK.elim
  · rename_i sz by' z n e ht
    have hT := tt _ _ ht
    split at hK
    · rename_i i l hi hl
      have hj := tt _ _ hi
      split at hK
      · rename_i cs hcs
        obtain ⟨c1, c2⟩ := cells_rep (constV_rep ι imm w z) hl
        obtain ⟨cw', k1, k2, k3⟩ := fill_rep he _ _ l z.cells cs c1 c2 hcs
        obtain ⟨info, i1, _, _, i4⟩ := hT.ok
        obtain ⟨infoe, j1, j2, _, _⟩ := hj.ok
        refine Done.val I (fin cw' ?_) hK (shape_rep k2 k3)
        have hu := hT.und
        simp only [Program.built, i1, hu, i4, j1, j2]
        exact k1
      · exact hK.elim
    · exact hK.elim
  · exact hK.elim

end
end Go.K
end
section
/-
  K, part 13: slice literals.
-/
namespace Go.K
open Go
set_option linter.unusedSectionVars false
set_option linter.unusedVariables false
set_option linter.unusedSimpArgs false

section
variable {ι : Nat → Option Value} {imm : Nat → Prop} {h : Heap} {w : World} {K : Out → Prop}
variable {P : Program} {E : Env} {draw : Bool} {ev : Operand → V} {ρ : Operand → Value} {o : Oper} {id : Nat}

/-- a slice literal's places, filled one by one -/
theorem fill_dense {size : Nat} : ∀ (ps : List (Nat × Operand)) (xs : List D) (k : Nat) (cw : Array Value), ps.length = xs.length → (∀ i, i < ps.length → (ps.getD i (0, .const undef)).1 = k + i) →
    (∀ i, i < ps.length → RepD imm w (xs.getD i .np) (ρ (ps.getD i (0, .const undef)).2) ∧ (xs.getD i .np).cells.length = size) → (k + ps.length) * size ≤ cw.size →
    ∃ cw', Instr.fill (fun i => some (i * size, size)) cw (ps.map fun p => (p.1, ρ p.2)) = some cw' ∧ cw'.size = cw.size ∧ (∀ m, m < k * size → cw'.getD m undef = cw.getD m undef) ∧
      ∀ i j, i < xs.length → j < size → RepC imm w ((xs.getD i .np).cells.getD j .np) (cw'.getD ((k + i) * size + j) undef)
  | [], xs, k, cw, hl, _, _, _ => by
    have : xs = [] := List.eq_nil_of_length_eq_zero hl.symm
    subst this
    exact ⟨cw, rfl, rfl, fun _ _ => rfl, fun i j hi => absurd hi (Nat.not_lt_zero _)⟩
  | (i, x) :: r, [], k, cw, hl, _, _, _ => by cases hl
  | (i, x) :: r, y :: ys, k, cw, hl, hk, hr, hfit => by
    have hi : i = k := by simpa using hk 0 (by simp)
    subst hi
    obtain ⟨h1, h2⟩ := hr 0 (by simp)
    have h1' : RepD imm w y (ρ x) := h1
    have h2' : y.cells.length = size := h2
    obtain ⟨c1, c2⟩ := repD_cells h1'
    obtain ⟨f1, f2⟩ := foldl_set (i * size) (ρ x).cells cw
    have hmul : (i + 1) * size = i * size + size := by rw [Nat.add_mul, Nat.one_mul]
    have hfit' : (i + 1 + r.length) * size ≤ cw.size := by simpa [Nat.add_assoc, Nat.add_comm 1] using hfit
    have hge : (i + 1) * size ≤ cw.size := Nat.le_trans (Nat.mul_le_mul_right _ (by omega)) hfit'
    obtain ⟨cw', k1, k2, k3, k4⟩ := fill_dense r ys (i + 1) ((ρ x).cells.zipIdx.foldl (fun cs (x : Value × Nat) => cs.setIfInBounds (i * size + x.2) x.1) cw) (by simpa using hl)
      (fun j hj => by have := hk (j + 1) (by simpa using hj); simpa [Nat.add_assoc, Nat.add_comm 1] using this) (fun j hj => by simpa using hr (j + 1) (by simpa using hj)) (by rw [f1]; exact hfit')
    refine ⟨cw', ?_, k2.trans f1, fun m hm => ?_, fun a b ha hb => ?_⟩
    · simp only [List.map_cons, Instr.fill]
      have hcond : ¬ ((decide ((ρ x).cells.size ≠ size) || decide (i * size + (ρ x).cells.size > cw.size)) = true) := by
        have e1 : (ρ x).cells.size = size := by omega
        have e2 : ¬ i * size + size > cw.size := by omega
        simp [e1]; omega
      rw [if_neg hcond]
      exact k1
    · rw [k3 m (by omega), f2, if_neg (by omega)]
    · cases a with
      | zero =>
        have hb' : b < y.cells.length := by omega
        rw [Nat.add_zero, k3 _ (by omega), f2, if_pos ⟨by omega, by omega, by omega⟩, show i * size + b - i * size = b by omega]
        exact c2 b hb'
      | succ a =>
        have := k4 a b (by simpa using ha) hb
        rw [show i + 1 + a = i + (a + 1) by omega] at this
        exact this

theorem partsD_ok : ∀ (ps : List (Nat × Operand)) (l : List (Nat × D)), partsD Ω h (ps.map fun p => (p.1, ev p.2)) = some l → l.length = ps.length ∧
    ∀ i, i < ps.length → (l.getD i (0, .np)).1 = (ps.getD i (0, .const undef)).1 ∧ toD Ω h (ev (ps.getD i (0, .const undef)).2) = some (l.getD i (0, .np)).2
  | [], l, hl => by cases hl; exact ⟨rfl, fun i hi => absurd hi (Nat.not_lt_zero _)⟩
  | (i, x) :: r, l, hl => by
    simp only [List.map_cons, partsD] at hl
    split at hl
    · rename_i d l' hd hl'
      cases hl
      obtain ⟨h1, h2⟩ := partsD_ok r l' hl'
      refine ⟨by simp [h1], fun j hj => ?_⟩
      cases j with
      | zero => exact ⟨rfl, hd⟩
      | succ j => exact h2 j (by simpa using hj)
    · cases hl

theorem dense_ok {size : Nat} : ∀ (l : List (Nat × D)) (k : Nat) (xs : List D), dense size k l = some xs → xs.length = l.length ∧
    ∀ i, i < l.length → (l.getD i (0, .np)).1 = k + i ∧ xs.getD i .np = (l.getD i (0, .np)).2 ∧ (xs.getD i .np).cells.length = size
  | [], k, xs, hx => by cases hx; exact ⟨rfl, fun i hi => absurd hi (Nat.not_lt_zero _)⟩
  | (i, x) :: r, k, xs, hx => by
    simp only [dense] at hx
    split at hx
    · rename_i hc
      split at hx
      · rename_i l hl
        cases hx
        obtain ⟨h1, h2⟩ := dense_ok r (k + 1) l hl
        refine ⟨by simp [h1], fun j hj => ?_⟩
        cases j with
        | zero => exact ⟨by simp [hc.1], rfl, hc.2⟩
        | succ j =>
          obtain ⟨a, b, c⟩ := h2 j (by simpa using hj)
          exact ⟨by rw [show k + (j + 1) = k + 1 + j by omega]; exact a, b, c⟩
      · cases hx
    · cases hx

variable (I : Inv ι imm h w) (tt : TTok P E.tt) (he : ∀ x, RepV ι imm w (ev x) (ρ x))
include I tt he

theorem op_buildSlice {T : TypeId} {len : Nat} {parts : Array (Nat × Operand)} (ho : o.op = .buildSlice T len parts) (hK : opR Ω E draw ev h o.op id K) : Done ι imm h w K ((execOp ρ o).run P w) := by
  rw [ho] at hK
  simp only [opR, w_slen, w_sget, w_ssub, w_sset, w_srep, w_scat, BrG_eq, DK_eq, w_ci, w_iand, w_ior, w_ixor, w_ishl, w_ishr, w_wrap, w_tmod, w_lt, w_le, w_eq, w_ne, w_ile, w_ilt, w_tn, w_nadd, w_nsub, w_nlt, w_leb, w_room, w_imax, w_imin] at hK
  split at hK
  · rename_i s1 s2 s3 e ht
    have hT := tt _ _ ht
    split at hK
    · rename_i i hi
      have hj := tt _ _ hi
      split at hK
      · rename_i l hl
        split at hK
        · rename_i xs hxs
          obtain ⟨hlen, hbig, hpos, hzero, hK⟩ := hK
          obtain ⟨z, hz⟩ := Option.isSome_iff_exists.1 hzero
          obtain ⟨p1, p2⟩ := partsD_ok _ _ hl
          obtain ⟨d1, d2⟩ := dense_ok _ _ _ hxs
          obtain ⟨imm1, I1, E1⟩ := Inv.freezeL ((parts.toList.map fun p => ev p.2).flatMap idsOf) I
          have hparts : ∀ k, k < parts.toList.length → RepD imm1 w (xs.getD k .np) (ρ (parts.toList.getD k (0, .const undef)).2) ∧ (xs.getD k .np).cells.length = i.size := fun k hk => by
            obtain ⟨a1, a2⟩ := p2 k hk
            obtain ⟨b1, b2, b3⟩ := d2 k (by omega)
            refine ⟨?_, b3⟩
            rw [b2]
            refine toD_rep I1 (fun j hj l e z xs hx => freezeL_done h _ j ?_ l e z xs hx) ((he _).evo I E1) a2
            refine List.mem_flatMap.2 ⟨ev (parts.toList.getD k (0, .const undef)).2, List.mem_map.2 ⟨parts.toList.getD k (0, .const undef), ?_, rfl⟩, hj⟩
            rw [List.getD_eq_getElem?_getD, List.getElem?_eq_getElem hk]
            exact List.getElem_mem hk
          have hpl : parts.toList.length = xs.length := by omega
          obtain ⟨cw', f1, f2, _, f4⟩ := fill_dense (size := i.size) parts.toList xs 0 ((Array.range (len * i.size)).map ((if len * i.size = 0 then #[] else z.cells)[· % (if len * i.size = 0 then #[] else z.cells).size]!)) hpl
            (fun k hk => by rw [← (p2 k hk).1, (d2 k (by omega)).1]) hparts (by simp; rw [show parts.size = len by simpa using hpl.trans hlen]; exact Nat.le_refl _)
          have hsize : cw'.size = len * i.size := by rw [f2]; simp
          have hr : (Instr.buildSlice T len (parts.map fun (i, x) => (i, ρ x))).run P w = .ok (.slice (some ⟨w.heap.size, 0, none⟩) len len) (w.alloc (.cells cw' e)) := by
            have hn : ¬ len * i.size > 2 ^ 24 := by omega
            have hmap : (parts.map fun (x : Nat × Operand) => match x with | (i, x) => (i, ρ x)).toList = parts.toList.map fun p => (p.1, ρ p.2) := by simp
            by_cases hq : len * i.size = 0
            · simp only [if_pos hq] at f1
              simp only [Instr.buildSlice, Sem.run_bind, run_underlying hT.und, Result.andThen_ok, hj.run_size, if_neg hn, if_pos hq, hmap, f1, newRow, run_newObj, Sem.run_pure]
              rfl
            · simp only [if_neg hq] at f1
              simp only [Instr.buildSlice, Sem.run_bind, run_underlying hT.und, Result.andThen_ok, hj.run_size, if_neg hn, if_neg hq, hj.run_zero hz, hmap, f1, newRow, run_newObj, Sem.run_pure]
              rfl
          have hexec : (execOp ρ o).run P w = .ok (.value (.slice (some ⟨w.heap.size, 0, none⟩) len len)) (w.alloc (.cells cw' e)) := by
            simp only [execOp, ho, Sem.run_bind, hr, Result.andThen_ok, Sem.run_pure]
          have hux : ∀ x, x ∈ xs → x.cells.length = i.size := fun x hx => by
            obtain ⟨k, hk, rfl⟩ := List.mem_iff_getElem.1 hx
            have := (d2 k (by omega)).2.2
            simpa [List.getD, hk] using this
          subst hlen
          cases hdr : (draw && !Nat.beq xs.length 0) with
          | true =>
            simp only [hdr, if_true] at hK
            have st := I1.newImm (.cells cw' e)
            refine ⟨_, _, _, ι, _, .inl hexec, hK, E1.trans st.2, st.1, ?_⟩
            show RepC _ _ (.sl xs) _
            by_cases hx : xs = []
            · subst hx; exact .sl0 _ _
            · refine .sl xs w.heap.size 0 xs.length i.size cw' e (0, 0) hx (.inr rfl) (heap_alloc_new w _) (Nat.le_refl _) hux (fun a b ha hb => ?_) fun a b ha hb => ?_
              · have := Nat.mul_le_mul_right i.size (Nat.succ_le_of_lt ha); rw [Nat.succ_mul] at this; omega
              · have := f4 a b ha hb
                rw [Nat.zero_add] at this ⊢
                exact RepC.mono (w := w) (fun g hg => ⟨.inl hg, heap_alloc_old w _ g (I1.lt g hg)⟩) this
          | false =>
            simp only [hdr, Bool.false_eq_true, if_false] at hK
            obtain ⟨hid, hK⟩ := hK
            have hid1 : ups h (freezeL h ((parts.toList.map fun p => ev p.2).flatMap idsOf)) id = none := by
              rcases freezeL_same h ((parts.toList.map fun p => ev p.2).flatMap idsOf) id with q | ⟨l', e', z', xs', q1, q2⟩
              · exact q.trans hid
              · rw [hid] at q1; cases q1
            have st := I1.fresh hid1 (.slice (some ⟨w.heap.size, 0, none⟩) xs.length xs.length) (.row true e i.size xs) (w' := w.alloc (.cells cw' e)) (by simp)
              (fun g hg => heap_alloc_old w _ g hg) rfl rfl rfl (fun g hg => by cases hg; exact Nat.le_refl _) ?_
            · exact ⟨_, _, _, _, imm1, .inl hexec, hK, E1.trans st.2, st.1, ⟨upd_same _ _ _, .inr ⟨_, _, _, rfl⟩⟩⟩
            · refine ⟨cw'.toList, ⟨by simp [hsize], .inr ⟨w.heap.size, _, cw', rfl, Nat.zero_le _, heap_alloc_new w _, Nat.le_refl _, ?_, Nat.le_of_eq hsize.symm, ?_⟩⟩, hux, fun a b ha hb => ?_⟩
              · have : xs.length * 1 ≤ xs.length * i.size := Nat.mul_le_mul_left _ hpos
                simp only [maxLen]; omega
              · rw [List.take_of_length_le]; simp [hsize]
              · have := f4 a b ha hb
                rw [Nat.zero_add] at this
                have e2 : cw'.toList.getD (a * i.size + b) undef = cw'.getD (a * i.size + b) undef := by
                  rw [List.getD_eq_getElem?_getD, Array.getElem?_toList, Array.getD_eq_getD_getElem?]
                rw [e2]
                exact RepC.mono (w := w) (fun g hg => ⟨hg, heap_alloc_old w _ g (I1.lt g hg)⟩) this
        · exact hK.elim
      · exact hK.elim
    · exact hK.elim
  · exact hK.elim

end
end Go.K
end
section
/-
  K, part 14: calls of Go functions.
-/
namespace Go.K
open Go
set_option linter.unusedSectionVars false
set_option linter.unusedVariables false
set_option linter.unusedSimpArgs false

/-- there is such a function, with a body -/
def Callable (P : Program) (f : FuncId) : Prop := ∃ fn, P.funcs[f]? = some fn ∧ (fn.name == "runtime.NumGoroutine") = false ∧ fn.body.isNone = false

/-- WHAT IS SHOWN OF A FUNCTION: called with values that read as 'args', where the blocks 'bs' are, it returns 'r', and the blocks are 'bs''; nothing else that was there is written. -/
def Good (P : Program) (f : FuncId) (args : List V) (bs : List Blk) (r : V) (bs' : List Blk) : Prop :=
  Callable P f ∧ ∀ (ι : Nat → Option Value) (imm : Nat → Prop) (w : World) (vs : Array Value), Inv ι imm (mkH bs) w → vs.size = args.length → (∀ j, j < args.length → RepV ι imm w (args.getD j .junk) (vs.getD j undef)) →
    Calls P f vs w fun e w' => ∃ v ι' imm', e = .returned v ∧ Evo ι imm (mkH bs) w ι' imm' (mkH bs') w' ∧ Inv ι' imm' (mkH bs') w' ∧ RepV ι' imm' w' r v

structure EnvOk (P : Program) (E : Env) : Prop where
  tt : TTok P E.tt
  C : ∀ g ds r, E.C g ds r → Good P g (ds.map V.d) [] r []
  C2 : ∀ g args bs r bs', E.C2 g args bs r bs' → Good P g args bs r bs'

/-- an operation ended well, a call too -/
def OpDone (P : Program) (ι : Nat → Option Value) (imm : Nat → Prop) (h : Heap) (w : World) (K : Out → Prop) (r : Result Next) : Prop :=
  Done ι imm h w K r ∨ ∃ g vs, r = .ok (.enter g vs) w ∧ Calls P g vs w fun e w' => ∃ v out ι' imm', e = .returned v ∧ K out ∧ Evo ι imm h w ι' imm' (ups h out.upd) w' ∧ Inv ι' imm' (ups h out.upd) w' ∧ RepV ι' imm' w' out.v v

section
variable {ι : Nat → Option Value} {imm : Nat → Prop} {h : Heap} {w : World} {K : Out → Prop}
variable {P : Program} {E : Env} {draw : Bool} {ev : Operand → V} {ρ : Operand → Value} {o : Oper} {id : Nat}

theorem ren1_rep {ι' : Nat → Option Value} {f : Nat → Option Nat} (hf : ∀ i k v, f i = some k → ι i = some v → ι' k = some v) {x : V} {v : Value} (hr : RepV1 ι imm w x v) : RepV1 ι' imm w (ren1 f x) v := by
  cases x with
  | d x => exact hr
  | agg cs => exact hr.elim
  | tup cs => exact hr.elim
  | nil => exact hr
  | fn g => exact hr
  | junk => trivial
  | ip x off => exact hr
  | ptr i off =>
    simp only [ren1]
    split
    · rename_i k hk
      obtain ⟨g, h1, h2⟩ := hr
      exact ⟨g, hf _ _ _ hk h1, h2⟩
    · trivial
  | ept i sz l off =>
    simp only [ren1]
    split
    · rename_i k hk
      obtain ⟨g, n, cap, h1, h2⟩ := hr
      exact ⟨g, n, cap, hf _ _ _ hk h1, h2⟩
    · trivial
  | own i sz =>
    simp only [ren1]
    split
    · rename_i k hk
      exact ⟨hf _ _ _ hk hr.1, hr.2⟩
    · trivial
  | ref i sz off len =>
    simp only [ren1]
    split
    · rename_i k hk
      rcases hr with ⟨g, n, cap, c, h1, h2⟩ | ⟨⟨u, h1⟩, h2⟩
      · exact .inl ⟨g, n, cap, c, hf _ _ _ hk h1, h2⟩
      · exact .inr ⟨⟨u, hf _ _ _ hk h1⟩, h2⟩
    · trivial

theorem getD_map_ren1 (f : Nat → Option Nat) (cs : List V) (j : Nat) : (cs.map (ren1 f)).getD j .junk = ren1 f (cs.getD j .junk) := by
  simp only [List.getD_eq_getElem?_getD, List.getElem?_map]
  cases cs[j]? <;> rfl
theorem getD_map_ren0 (f : Nat → Option Nat) (cs : List V) (j : Nat) : (cs.map (ren0 f)).getD j .junk = ren0 f (cs.getD j .junk) := by
  simp only [List.getD_eq_getElem?_getD, List.getElem?_map]
  cases cs[j]? <;> rfl

theorem V0_of_V1' {ι : Nat → Option Value} {imm : Nat → Prop} {w : World} {x : V} {v : Value} (h : RepV1 ι imm w x v) : RepV0 ι imm w x v := by
  have := V0_of_V1 h
  cases x <;> first | exact this | exact h.elim

theorem ren0_rep {ι' : Nat → Option Value} {f : Nat → Option Nat} (hf : ∀ i k v, f i = some k → ι i = some v → ι' k = some v) {x : V} {v : Value} (hr : RepV0 ι imm w x v) : RepV0 ι' imm w (ren0 f x) v := by
  cases x with
  | d x => exact hr
  | agg cs =>
    obtain ⟨vs, h1, h2, h3⟩ := hr
    refine ⟨vs, h1, by simpa using h2, fun j hj => ?_⟩
    rw [getD_map_ren1]
    exact ⟨ren1_rep hf (h3 j (by simpa using hj)).1, (h3 j (by simpa using hj)).2⟩
  | tup cs => exact hr.elim
  | nil => exact hr
  | fn g => exact hr
  | junk => trivial
  | ip x off => exact hr
  | ptr i off => exact V0_of_V1' (ren1_rep (x := .ptr i off) hf hr)
  | ept i sz l off => exact V0_of_V1' (ren1_rep (x := .ept i sz l off) hf hr)
  | own i sz => exact V0_of_V1' (ren1_rep (x := .own i sz) hf hr)
  | ref i sz off len => exact V0_of_V1' (ren1_rep (x := .ref i sz off len) hf hr)

theorem V_of_V0 {ι : Nat → Option Value} {imm : Nat → Prop} {w : World} {x : V} {v : Value} (h : RepV0 ι imm w x v) : RepV ι imm w x v := by
  cases x <;> first | exact h | exact h.elim

theorem ren_rep {ι' : Nat → Option Value} {f : Nat → Option Nat} (hf : ∀ i k v, f i = some k → ι i = some v → ι' k = some v) {x : V} {v : Value} (hr : RepV ι imm w x v) : RepV ι' imm w (ren f x) v := by
  cases x with
  | tup cs =>
    obtain ⟨vs, h1, h2, h3⟩ := hr
    refine ⟨vs, h1, by simpa using h2, fun j hj => ?_⟩
    rw [getD_map_ren0]
    exact ren0_rep hf (h3 j (by simpa using hj))
  | d x => exact V_of_V0 (ren0_rep (x := .d x) hf hr)
  | agg cs => exact V_of_V0 (ren0_rep (x := .agg cs) hf hr)
  | ptr i off => exact V_of_V0 (ren0_rep (x := .ptr i off) hf hr)
  | ept i sz l off => exact V_of_V0 (ren0_rep (x := .ept i sz l off) hf hr)
  | ip x off => exact hr
  | own i sz => exact V_of_V0 (ren0_rep (x := .own i sz) hf hr)
  | ref i sz off len => exact V_of_V0 (ren0_rep (x := .ref i sz off len) hf hr)
  | nil => exact hr
  | fn f => exact hr
  | junk => trivial

theorem renB_rep {ι' : Nat → Option Value} {f : Nat → Option Nat} (hf : ∀ i k v, f i = some k → ι i = some v → ι' k = some v) {B : Blk} {v : Value} (hr : BlkRep ι imm w B v) : BlkRep ι' imm w (renB f B) v := by
  cases B with
  | dead => trivial
  | row l e sz xs => cases l <;> exact hr
  | var cs =>
    obtain ⟨g, vs, T, h1, h2, h3, h4⟩ := hr
    refine ⟨g, vs, T, h1, h2, by simpa using h3, fun j hj => ?_⟩
    rw [getD_map_ren1]
    exact ⟨ren1_rep hf (h4 j (by simpa using hj)).1, (h4 j (by simpa using hj)).2⟩

theorem live_renB (f : Nat → Option Nat) (B : Blk) : live (renB f B) = live B := by cases B <;> rfl

theorem run_enter {g : FuncId} (hC : Callable P g) {f : Operand} {args : Array Operand} {ts : Array TypeId} (ho : o.op = .call { callee := .value f, args := args, argTypes := ts }) (hf : ρ f = .func (.func g) #[] #[]) :
    (execOp ρ o).run P w = .ok (.enter g (args.map ρ)) w := by
  obtain ⟨fn, h1, h2, h3⟩ := hC
  have h2' : ¬ fn.name = "runtime.NumGoroutine" := by simpa using h2
  obtain ⟨c, hc⟩ : ∃ c, fn.body = some c := by
    cases hb : fn.body with
    | none => rw [hb] at h3; cases h3
    | some c => exact ⟨c, rfl⟩
  simp [execOp, ho, resolve, hf, Deferred.ofValue, invoke, callFunc, h1, h2', hc]

theorem toDs_ok : ∀ (l : List V) (ds : List D), toDs Ω h l = some ds → ds.length = l.length ∧ ∀ j, j < l.length → toD Ω h (l.getD j .junk) = some (ds.getD j .np)
  | [], ds, e => by cases e; exact ⟨rfl, fun j hj => absurd hj (Nat.not_lt_zero _)⟩
  | a :: r, ds, e => by
    simp only [toDs] at e
    split at e
    · rename_i x l' ha hr'
      cases e
      obtain ⟨i1, i2⟩ := toDs_ok r l' hr'
      refine ⟨by simp [i1], fun j hj => ?_⟩
      cases j with
      | zero => exact ha
      | succ j => exact i2 j (by simpa using hj)
    · cases e

/-- the machine's state behind a call that wrote nothing that was there -/
theorem Inv.called (I : Inv ι imm h w) {imm' : Nat → Prop} {w' : World} {ι0 ι1 : Nat → Option Value} {h1 : Heap} (e : Evo ι0 imm (mkH []) w ι1 imm' h1 w') (I1 : Inv ι1 imm' h1 w') (ho : ∀ g, ¬ Owned ι0 (mkH []) g) :
    Inv ι imm' h w' ∧ Evo ι imm h w ι imm' h w' := by
  have keep : ∀ g, g < w.heap.size → w'.heap[g]? = w.heap[g]? := fun g hg => e.keep g hg (ho g)
  have immR : ∀ g, imm' g → imm g ∨ w.heap.size ≤ g := fun g hg => by
    rcases e.immR g hg with q | q | q
    · exact .inl q
    · exact .inr q
    · exact absurd q (ho g)
  refine ⟨⟨fun id B hid => ?_, I.non, fun g o q => ?_, I.inj, I1.lt⟩, ⟨fun _ _ q => q, e.immS, fun g q => (immR g q).imp id .inl, fun g o => .inl o, fun g hg _ => keep g hg, e.size, e.os, e.tape, e.output⟩⟩
  · obtain ⟨v, h1, h2⟩ := I.blk id B hid
    exact ⟨v, h1, h2.mono (fun _ _ q => q) (fun g hg => ⟨e.immS g hg, keep g (I.lt g hg)⟩) fun g a b => keep g (h2.lt a b)⟩
  · rcases immR g q with q | q
    · exact I.own g o q
    · have := I.owned_lt o; omega

theorem mkH_nil (id : Nat) : mkH [] id = none := by simp [mkH]
theorem not_owned_nil (ι : Nat → Option Value) (g : Nat) : ¬ Owned ι (mkH []) g := by
  rintro ⟨id, B, v, h1, _⟩; rw [mkH_nil] at h1; cases h1

variable (I : Inv ι imm h w) (ok : EnvOk P E) (he : ∀ x, RepV ι imm w (ev x) (ρ x))
include I ok he

theorem op_callPure {f : Operand} {g : FuncId} {args : Array Operand} {ts : Array TypeId} (ho : o.op = .call { callee := .value f, args := args, argTypes := ts }) (hf : ev f = .fn g) {ds : List D}
    (hd : toDs Ω h (args.toList.map ev) = some ds) {r : V} (hC : E.C g ds r) (hK : K { v := r, upd := freezeL h ((args.toList.map ev).flatMap idsOf), rd := (args.toList.map ev).flatMap idsOf }) :
    OpDone P ι imm h w K ((execOp ρ o).run P w) := by
  obtain ⟨hcall, hgood⟩ := ok.C g ds r hC
  have h1 := he f
  rw [hf] at h1
  obtain ⟨d1, d2⟩ := toDs_ok _ _ hd
  obtain ⟨imm1, I1, E1⟩ := Inv.freezeL ((args.toList.map ev).flatMap idsOf) I
  refine .inr ⟨g, args.map ρ, run_enter hcall ho (repFn h1), ?_⟩
  have I0 : Inv (fun _ => none) imm1 (mkH []) w := ⟨fun id B hid => (by rw [mkH_nil] at hid; cases hid), fun _ _ => rfl, fun g o => absurd o (not_owned_nil _ g), fun a b A B x y g h1 => (by rw [mkH_nil] at h1; cases h1), I1.lt⟩
  refine (hgood (fun _ => none) imm1 w (args.map ρ) I0 (by simp at d1 ⊢; omega) (fun j hj => ?_)).mono ?_
  · have hj' : j < ds.length := by simpa using hj
    have hja : j < args.toList.length := by simp at d1 ⊢; omega
    have e1 : (ds.map V.d).getD j .junk = .d (ds.getD j .np) := by simp [List.getD, hj']
    have e2 : (args.map ρ).getD j undef = ρ (args.toList.getD j (.const undef)) := by
      have : j < args.size := by simpa using hja
      simp [Array.getD, this, List.getD]
    have e3 : (args.toList.map ev).getD j .junk = ev (args.toList.getD j (.const undef)) := by
      have : j < args.size := by simpa using hja
      simp [List.getD, this]
    have := d2 j (by simpa using hja)
    rw [e3] at this
    rw [e1, e2]
    refine toD_rep I1 (fun i hi l e z xs hx => freezeL_done h _ i (List.mem_flatMap.2 ⟨ev (args.toList.getD j (.const undef)), List.mem_map.2 ⟨args.toList.getD j (.const undef), ?_, rfl⟩, hi⟩) l e z xs hx) ((he _).evo I E1) this
    rw [List.getD_eq_getElem?_getD, List.getElem?_eq_getElem hja]
    exact List.getElem_mem hja
  · rintro e w' ⟨v, ι', imm', rfl, e2, I2, hr⟩
    obtain ⟨I3, E3⟩ := I1.called e2 I2 (not_owned_nil _)
    refine ⟨v, _, ι, imm', rfl, hK, E1.trans E3, I3, hr.mono (fun id v q => ?_) fun g hg => ⟨hg, rfl⟩⟩
    have := I2.non id (mkH_nil id)
    rw [this] at q; cases q


omit I ok he
theorem getAll_ok : ∀ (l : List Nat) (bs : List Blk), getAll h l = some bs → bs.length = l.length ∧ ∀ (j : Nat) (i : Nat), l[j]? = some i → ∃ B, bs[j]? = some B ∧ h i = some B
  | [], bs, e => by cases e; exact ⟨rfl, fun j i hj => by simp at hj⟩
  | a :: r, bs, e => by
    simp only [getAll] at e
    split at e
    · rename_i x l' ha hr'
      cases e
      obtain ⟨i1, i2⟩ := getAll_ok r l' hr'
      refine ⟨by simp [i1], fun j i hj => ?_⟩
      cases j with
      | zero => simp at hj; subst hj; exact ⟨x, rfl, ha⟩
      | succ j => exact i2 j i (by simpa using hj)
    · cases e

theorem nodupB_ok : ∀ (l : List Nat), nodupB l = true → l.Nodup
  | [], _ => List.nodup_nil
  | a :: r, e => by
    simp only [nodupB, Bool.and_eq_true, Bool.not_eq_true', List.contains_eq_mem, decide_eq_false_iff_not] at e
    exact List.nodup_cons.2 ⟨e.1, nodupB_ok r e.2⟩

theorem allNew_ok : ∀ (l : List Nat), allNew h l → ∀ i, i ∈ l → h i = none
  | [], _, i, hi => absurd hi List.not_mem_nil
  | a :: r, e, i, hi => by
    rcases List.mem_cons.1 hi with q | q
    · subst q; exact e.1
    · exact allNew_ok r e.2 i q

theorem newIds_nodup (id n : Nat) : (newIds id n).Nodup := by
  unfold newIds
  refine List.Pairwise.map _ (fun a b (hab : a ≠ b) => ?_) List.nodup_range
  omega

/-- blocks laid over a heap, each under its number -/
theorem ups_zip : ∀ (τ : List Nat) (bs : List Blk), τ.Nodup → τ.length = bs.length → ∀ i, (∀ j : Nat, τ[j]? = some i → ∃ B, bs[j]? = some B ∧ ups h (τ.zip bs) i = some B) ∧ (i ∉ τ → ups h (τ.zip bs) i = h i)
  | [], bs, _, _, i => ⟨fun j hj => by simp at hj, fun _ => rfl⟩
  | a :: r, [], _, hl, i => by cases hl
  | a :: r, b :: bs, hn, hl, i => by
    obtain ⟨n1, n2⟩ := List.nodup_cons.1 hn
    obtain ⟨k1, k2⟩ := ups_zip r bs n2 (by simpa using hl) i
    simp only [List.zip_cons_cons, ups]
    refine ⟨fun j hj => ?_, fun hi => ?_⟩
    · cases j with
      | zero => simp at hj; subst hj; exact ⟨b, rfl, upd_same _ _ _⟩
      | succ j =>
        have hj' : r[j]? = some i := by simpa using hj
        obtain ⟨B, q1, q2⟩ := k1 j hj'
        have hne : i ≠ a := fun q => by subst q; exact n1 (List.mem_of_getElem? hj')
        exact ⟨B, by simpa using q1, by rw [upd_other _ _ _ _ hne]; exact q2⟩
    · have hne : i ≠ a := fun q => by subst q; exact hi (by simp)
      rw [upd_other _ _ _ _ hne]
      exact k2 fun q => hi (by simp [q])

theorem fore_some {σ : List Nat} {i k : Nat} (hf : fore σ i = some k) : σ[k]? = some i := by
  unfold fore at hf
  rw [List.idxOf?, List.findIdx?_eq_some_iff_getElem] at hf
  obtain ⟨hk, h1, _⟩ := hf
  simp at h1
  rw [List.getElem?_eq_getElem hk, h1]

include I ok he
theorem op_callRef {f : Operand} {g : FuncId} {args : Array Operand} {ts : Array TypeId} (ho : o.op = .call { callee := .value f, args := args, argTypes := ts }) (hf : ev f = .fn g) {σ : List Nat} {bs : List Blk}
    (hb : getAll h σ = some bs) {r : V} {bs' : List Blk} (hC : E.C2 g ((args.toList.map ev).map (ren (fore σ))) (bs.map (renB (fore σ))) r bs') {ns : List Nat} (hnew : allNew h ns) (hnd : ns.Nodup)
    (hlen : bs.length ≤ bs'.length) (hns : ns.length = bs'.length - bs.length) (hσ : nodupB σ = true)
    (hK : K { v := ren (back (σ ++ ns)) r, upd := (σ ++ ns).zip (bs'.map (renB (back (σ ++ ns)))), rd := σ ++ ns }) :
    OpDone P ι imm h w K ((execOp ρ o).run P w) := by
  obtain ⟨hcall, hgood⟩ := ok.C2 g _ _ r bs' hC
  have h1 := he f
  rw [hf] at h1
  obtain ⟨b1, b2⟩ := getAll_ok _ _ hb
  have hsn := nodupB_ok _ hσ
  have hnone := allNew_ok _ hnew
  have hsome : ∀ (k : Nat) i, σ[k]? = some i → ∃ B v, bs[k]? = some B ∧ h i = some B ∧ ι i = some v ∧ BlkRep ι imm w B v := fun k i hk => by
    obtain ⟨B, q1, q2⟩ := b2 k i hk
    obtain ⟨v, q3, q4⟩ := I.blk i B q2
    exact ⟨B, v, q1, q2, q3, q4⟩
  have hdis : ∀ i, i ∈ σ → i ∉ ns := fun i a b => by
    obtain ⟨k, hk⟩ := List.mem_iff_getElem?.1 a
    obtain ⟨B, v, _, q, _⟩ := hsome k i hk
    rw [hnone i b] at q; cases q
  have hτn : (σ ++ ns).Nodup := List.nodup_append.2 ⟨hsn, hnd, fun a ha b hb hab => by subst hab; exact hdis a ha hb⟩
  have hτl : (σ ++ ns).length = bs'.length := by rw [List.length_append]; omega
  -- the callee's numbers
  let ιc : Nat → Option Value := fun k => (σ[k]?).bind ι
  have hιc : ∀ i k v, fore σ i = some k → ι i = some v → ιc k = some v := fun i k v hf hv => by
    show (σ[k]?).bind ι = some v
    rw [fore_some hf]; exact hv
  have hmk : ∀ k B, mkH (bs.map (renB (fore σ))) k = some B → ∃ i B0 v, σ[k]? = some i ∧ h i = some B0 ∧ B = renB (fore σ) B0 ∧ ι i = some v ∧ ιc k = some v ∧ BlkRep ι imm w B0 v := fun k B hB => by
    simp only [mkH, List.getElem?_map] at hB
    cases hk : bs[k]? with
    | none => rw [hk] at hB; cases hB
    | some B0 =>
      rw [hk] at hB; cases hB
      have hlt : k < σ.length := by have := (List.getElem?_eq_some_iff.1 hk).1; omega
      have hki : σ[k]? = some σ[k] := List.getElem?_eq_getElem hlt
      obtain ⟨B1, v, q1, q2, q3, q4⟩ := hsome k _ hki
      rw [hk] at q1; cases q1
      exact ⟨_, _, v, hki, q2, rfl, q3, by show (σ[k]?).bind ι = some v; rw [hki]; exact q3, q4⟩
  have ownc : ∀ x, Owned ιc (mkH (bs.map (renB (fore σ)))) x → ∃ k i B0 v, σ[k]? = some i ∧ h i = some B0 ∧ live B0 = true ∧ ι i = some v ∧ blockOf v = some x ∧ ιc k = some v := fun x ⟨k, B, v, q1, q2, q3, q4⟩ => by
    obtain ⟨i, B0, v', p1, p2, rfl, p3, p4, _⟩ := hmk k B q1
    rw [p4] at q3; cases q3
    exact ⟨k, i, B0, _, p1, p2, (by rw [live_renB] at q2; exact q2), p3, q4, p4⟩
  have ownc' : ∀ x, Owned ιc (mkH (bs.map (renB (fore σ)))) x → Owned ι h x := fun x o => by
    obtain ⟨k, i, B0, v, _, p2, p3, p4, p5, _⟩ := ownc x o
    exact ⟨i, B0, v, p2, p3, p4, p5⟩
  have Ic : Inv ιc imm (mkH (bs.map (renB (fore σ)))) w := by
    refine ⟨fun k B hB => ?_, fun k hk => ?_, fun x o => I.own x (ownc' x o), ?_, I.lt⟩
    · obtain ⟨i, B0, v, _, _, rfl, _, p4, p5⟩ := hmk k B hB
      exact ⟨v, p4, renB_rep hιc p5⟩
    · show (σ[k]?).bind ι = none
      have : ¬ k < σ.length := fun q => by
        have : k < (bs.map (renB (fore σ))).length := by simp; omega
        simp only [mkH] at hk
        rw [List.getElem?_eq_getElem this] at hk; cases hk
      rw [List.getElem?_eq_none (by omega)]; rfl
    · intro k1 k2 B1 B2 v1 v2 x q1 q2 l1 l2 e1 e2 g1 g2
      obtain ⟨i1, A1, u1, p1, p2, rfl, p3, p4, _⟩ := hmk k1 B1 q1
      obtain ⟨i2, A2, u2, r1, r2, rfl, r3, r4, _⟩ := hmk k2 B2 q2
      rw [p4] at e1; cases e1
      rw [r4] at e2; cases e2
      rw [live_renB] at l1 l2
      have := I.inj i1 i2 A1 A2 _ _ x p2 r2 l1 l2 p3 r3 g1 g2
      subst this
      have a1 := (List.getElem?_eq_some_iff.1 p1)
      have a2 := (List.getElem?_eq_some_iff.1 r1)
      obtain ⟨l1, a1⟩ := a1
      obtain ⟨l2, a2⟩ := a2
      exact (List.getElem_inj hsn).1 (a1.trans a2.symm)
  refine .inr ⟨g, args.map ρ, run_enter hcall ho (repFn h1), ?_⟩
  refine (hgood ιc imm w (args.map ρ) Ic (by simp) (fun j hj => ?_)).mono ?_
  · have hja : j < args.size := by simpa using hj
    have e1 : ((args.toList.map ev).map (ren (fore σ))).getD j .junk = ren (fore σ) (ev (args.toList.getD j (.const undef))) := by simp [List.getD, hja]
    have e2 : (args.map ρ).getD j undef = ρ (args.toList.getD j (.const undef)) := by simp [Array.getD, hja, List.getD]
    rw [e1, e2]
    exact ren_rep hιc (he _)
  · rintro e w' ⟨v, ι', imm', rfl, e2, I2, hr⟩
    have hι'σ : ∀ (k : Nat) i v, σ[k]? = some i → ι i = some v → ι' k = some v := fun k i v hk hv => e2.ids k v (by show (σ[k]?).bind ι = some v; rw [hk]; exact hv)
    -- the caller's numbers behind the call
    let ι2 : Nat → Option Value := fun i => match fore ns i with
      | some k => ι' (bs.length + k)
      | none => ι i
    have fore_none : ∀ i, i ∉ ns → fore ns i = none := fun i hi => by
      unfold fore
      rw [List.idxOf?, List.findIdx?_eq_none_iff]
      intro x hx
      simp
      intro q; subst q; exact hi hx
    have hold : ∀ i, i ∉ ns → ι2 i = ι i := fun i hi => by show (match fore ns i with | some k => _ | none => _) = _; rw [fore_none i hi]
    have hmono : ∀ i v, ι i = some v → ι2 i = some v := fun i v hv => by
      rw [hold i fun q => by rw [I.non i (hnone i q)] at hv; cases hv]; exact hv
    have hback : ∀ k i v, back (σ ++ ns) k = some i → ι' k = some v → ι2 i = some v := fun k i v hk hv => by
      simp only [back] at hk
      by_cases c : k < σ.length
      · rw [List.getElem?_append_left c] at hk
        obtain ⟨B, u, _, _, q3, _⟩ := hsome k i hk
        have := hι'σ k i u hk q3
        rw [hv] at this; cases this
        exact hmono i v q3
      · rw [List.getElem?_append_right (by omega)] at hk
        have hf : fore ns i = some (k - σ.length) := by
          unfold fore
          rw [List.idxOf?, List.findIdx?_eq_some_iff_getElem]
          obtain ⟨hlt, he'⟩ := List.getElem?_eq_some_iff.1 hk
          refine ⟨hlt, by simp [he'], fun j hj => ?_⟩
          simp
          intro q
          have := (List.getElem_inj (h₀ := by omega) (h₁ := hlt) hnd).1 (q.trans he'.symm)
          omega
        show (match fore ns i with | some k => ι' (bs.length + k) | none => ι i) = some v
        rw [hf]
        show ι' (bs.length + (k - σ.length)) = some v
        rw [show bs.length + (k - σ.length) = k by omega]; exact hv
    have keepc : ∀ x, x < w.heap.size → ¬ Owned ιc (mkH (bs.map (renB (fore σ)))) x → w'.heap[x]? = w.heap[x]? := e2.keep
    have hH : ∀ i, (∀ k : Nat, (σ ++ ns)[k]? = some i → ∃ B, bs'[k]? = some B ∧ ups h ((σ ++ ns).zip (bs'.map (renB (back (σ ++ ns))))) i = some (renB (back (σ ++ ns)) B)) ∧ (i ∉ σ ++ ns → ups h ((σ ++ ns).zip (bs'.map (renB (back (σ ++ ns))))) i = h i) := fun i => by
      obtain ⟨k1, k2⟩ := ups_zip (h := h) (σ ++ ns) (bs'.map (renB (back (σ ++ ns)))) hτn (by simpa using hτl) i
      refine ⟨fun k hk => ?_, k2⟩
      obtain ⟨B, q1, q2⟩ := k1 k hk
      rw [List.getElem?_map] at q1
      cases hB : bs'[k]? with
      | none => rw [hB] at q1; cases q1
      | some B0 => rw [hB] at q1; cases q1; exact ⟨B0, rfl, q2⟩
    have hcase : ∀ i B, ups h ((σ ++ ns).zip (bs'.map (renB (back (σ ++ ns))))) i = some B → (∃ (k : Nat) (B0 : Blk) (v : Value), (σ ++ ns)[k]? = some i ∧ B = renB (back (σ ++ ns)) B0 ∧ mkH bs' k = some B0 ∧ ι' k = some v ∧ ι2 i = some v ∧ BlkRep ι' imm' w' B0 v) ∨
        (i ∉ σ ∧ i ∉ ns ∧ h i = some B) := fun i B hB => by
      by_cases c : i ∈ σ ++ ns
      · obtain ⟨k, hk⟩ := List.mem_iff_getElem?.1 c
        obtain ⟨B0, q1, q2⟩ := (hH i).1 k hk
        rw [hB] at q2; cases q2
        obtain ⟨v, q3, q4⟩ := I2.blk k B0 q1
        exact .inl ⟨k, B0, v, hk, rfl, q1, q3, hback k i v hk q3, q4⟩
      · rw [(hH i).2 c] at hB
        rw [List.mem_append, not_or] at c
        exact .inr ⟨c.1, c.2, hB⟩
    -- a block of the caller's that was not handed on is nobody else's
    have apart : ∀ i B v x, i ∉ σ → h i = some B → live B = true → ι i = some v → blockOf v = some x → ¬ Owned ιc (mkH (bs.map (renB (fore σ)))) x := fun i B v x hi q1 q2 q3 q4 o => by
      obtain ⟨k, i', B0, v', p1, p2, p3, p4, p5, _⟩ := ownc x o
      have := I.inj i i' B B0 v v' x q1 p2 q2 p3 q3 p4 q4 p5
      subst this
      exact hi (List.mem_of_getElem? p1)
    have own2 : ∀ x, Owned ι2 (ups h ((σ ++ ns).zip (bs'.map (renB (back (σ ++ ns)))))) x → Owned ι' (mkH bs') x ∨ (∃ i B v, i ∉ σ ∧ i ∉ ns ∧ h i = some B ∧ live B = true ∧ ι i = some v ∧ blockOf v = some x) := fun x ⟨i, B, v, q1, q2, q3, q4⟩ => by
      rcases hcase i B q1 with ⟨k, B0, u, p1, rfl, p2, p3, p4, _⟩ | ⟨p1, p1', p2⟩
      · rw [p4] at q3; cases q3
        exact .inl ⟨k, B0, _, p2, by rw [live_renB] at q2; exact q2, p3, q4⟩
      · rw [hold i p1'] at q3
        exact .inr ⟨i, B, v, p1, p1', p2, q2, q3, q4⟩
    have notimm : ∀ i B v x, i ∉ σ → h i = some B → live B = true → ι i = some v → blockOf v = some x → ¬ imm' x := fun i B v x hi q1 q2 q3 q4 c => by
      rcases e2.immR x c with q | q | q
      · exact I.own x ⟨i, B, v, q1, q2, q3, q4⟩ q
      · have := I.owned_lt ⟨i, B, v, q1, q2, q3, q4⟩; omega
      · exact apart i B v x hi q1 q2 q3 q4 q
    have hm : ∀ x, imm x → imm' x ∧ w'.heap[x]? = w.heap[x]? := fun x hx => ⟨e2.immS x hx, keepc x (I.lt x hx) fun o => I.own x (ownc' x o) hx⟩
    refine ⟨v, _, ι2, imm', rfl, hK, ⟨hmono, e2.immS, fun x hx => ?_, fun x o => ?_, fun x hx hn => keepc x hx fun o => hn (ownc' x o), e2.size, e2.os, e2.tape, e2.output⟩, ⟨fun i B hB => ?_, fun i hi => ?_, fun x o => ?_, ?_, I2.lt⟩, ?_⟩
    · rcases e2.immR x hx with q | q | q
      · exact .inl q
      · exact .inr (.inl q)
      · exact .inr (.inr (ownc' x q))
    · rcases own2 x o with q | ⟨i, B, v, _, _, q1, q2, q3, q4⟩
      · rcases e2.own' x q with q | q
        · exact .inl (ownc' x q)
        · exact .inr q
      · exact .inl ⟨i, B, v, q1, q2, q3, q4⟩
    · rcases hcase i B hB with ⟨k, B0, u, p1, rfl, p2, p3, p4, p5⟩ | ⟨p1, p1', p2⟩
      · exact ⟨u, p4, renB_rep (fun a b c => hback a b c) p5⟩
      · obtain ⟨u, q1, q2⟩ := I.blk i B p2
        exact ⟨u, hmono i u q1, q2.mono hmono hm fun x l b => keepc x (q2.lt l b) (apart i B u x p1 p2 l q1 b)⟩
    · have c : i ∉ σ ++ ns := fun c => by
        obtain ⟨k, hk⟩ := List.mem_iff_getElem?.1 c
        obtain ⟨B0, _, q2⟩ := (hH i).1 k hk
        rw [hi] at q2; cases q2
      rw [(hH i).2 c] at hi
      rw [List.mem_append, not_or] at c
      rw [hold i c.2]; exact I.non i hi
    · rcases own2 x o with q | ⟨i, B, v, q0, _, q1, q2, q3, q4⟩
      · exact I2.own x q
      · exact notimm i B v x q0 q1 q2 q3 q4
    · intro i1 i2 B1 B2 v1 v2 x q1 q2 l1 l2 t1 t2 g1 g2
      have cross : ∀ (k : Nat) (B0 : Blk) (u : Value) j Bj uj, mkH bs' k = some B0 → live B0 = true → ι' k = some u → blockOf u = some x → j ∉ σ → h j = some Bj → live Bj = true → ι j = some uj → blockOf uj = some x → False := fun k B0 u j Bj uj a1 a2 a3 a4 c1 c2 c3 c4 c5 => by
        rcases e2.own' x ⟨k, B0, u, a1, a2, a3, a4⟩ with q | q
        · exact apart j Bj uj x c1 c2 c3 c4 c5 q
        · have := I.owned_lt ⟨j, Bj, uj, c2, c3, c4, c5⟩; omega
      rcases hcase i1 B1 q1 with ⟨k, B0, u, p1, rfl, p2, p3, p4, _⟩ | ⟨p1, p1', p2⟩
      · rw [p4] at t1; cases t1
        rw [live_renB] at l1
        rcases hcase i2 B2 q2 with ⟨k', B0', u', p1', rfl, p2', p3', p4', _⟩ | ⟨r1, r1', r2⟩
        · rw [p4'] at t2; cases t2
          rw [live_renB] at l2
          have := I2.inj k k' B0 B0' _ _ x p2 p2' l1 l2 p3 p3' g1 g2
          subst this
          rw [p1] at p1'; cases p1'; rfl
        · rw [hold i2 r1'] at t2
          exact (cross k B0 _ i2 B2 v2 p2 l1 p3 g1 r1 r2 l2 t2 g2).elim
      · rw [hold i1 p1'] at t1
        rcases hcase i2 B2 q2 with ⟨k', B0', u', r1, rfl, r2, r3, r4, _⟩ | ⟨r1, r1', r2⟩
        · rw [r4] at t2; cases t2
          rw [live_renB] at l2
          exact (cross k' B0' _ i1 B1 v1 r2 l2 r3 g2 p1 p2 l1 t1 g1).elim
        · rw [hold i2 r1'] at t2
          exact I.inj i1 i2 B1 B2 v1 v2 x p2 r2 l1 l2 t1 t2 g1 g2
    · exact ren_rep (fun a b c => hback a b c) hr

end
/-- blocks that are put where they are -/
theorem ups_zip_self {h : Heap} : ∀ (σ : List Nat) (bs : List Blk), getAll h σ = some bs → ups h (σ.zip bs) = h
  | [], bs, e => by cases e; rfl
  | i :: r, bs, e => by
    simp only [getAll] at e
    split at e
    · rename_i b l hb hl
      cases e
      show upd (ups h (r.zip l)) i (some b) = h
      rw [ups_zip_self r l hl]
      funext t
      by_cases c : t = i
      · subst c; rw [upd_same, hb]
      · rw [upd_other _ _ _ _ c]
    · cases e

theorem OpDone.map {P : Program} {ι : Nat → Option Value} {imm : Nat → Prop} {h : Heap} {w : World} {K K' : Out → Prop} {r : Result Next} (hK : ∀ out, K out → ∃ out', K' out' ∧ out'.v = out.v ∧ ups h out'.upd = ups h out.upd)
    (hd : OpDone P ι imm h w K r) : OpDone P ι imm h w K' r := by
  rcases hd with ⟨out, v, w', ι', imm', h1, h2, h3, h4, h5⟩ | ⟨g, vs, h1, h2⟩
  · obtain ⟨out', k1, k2, k3⟩ := hK out h2
    exact .inl ⟨out', v, w', ι', imm', h1, k1, by rw [k3]; exact h3, by rw [k3]; exact h4, by rw [k2]; exact h5⟩
  · refine .inr ⟨g, vs, h1, h2.mono fun e w' q => ?_⟩
    obtain ⟨v, out, ι', imm', q1, q2, q3, q4, q5⟩ := q
    obtain ⟨out', k1, k2, k3⟩ := hK out q2
    exact ⟨v, out', ι', imm', q1, k1, by rw [k3]; exact q3, by rw [k3]; exact q4, by rw [k2]; exact q5⟩

end Go.K
end
section
/-
  K, part 15: every operation; what an operation looks at.
-/
namespace Go.K
open Go
set_option linter.unusedSectionVars false
set_option linter.unusedVariables false
set_option linter.unusedSimpArgs false
set_option linter.unnecessarySimpa false

section
variable {ι : Nat → Option Value} {imm : Nat → Prop} {h : Heap} {w : World} {K : Out → Prop}
variable {P : Program} {E : Env} {draw : Bool} {ev : Operand → V} {ρ : Operand → Value} {o : Oper} {id : Nat}

theorem op_sound (ok : EnvOk P E) (I : Inv ι imm h w) (he : ∀ x, RepV ι imm w (ev x) (ρ x)) (hK : opR Ω E draw ev h o.op id K) : OpDone P ι imm h w K ((execOp ρ o).run P w) := by
  have tt := ok.tt
  cases ho : o.op with
  | move x => exact .inl (op_move I he ho hK)
  | assign x => exact .inl (op_assign I he ho hK)
  | pick c a b => exact .inl (op_pick I he ho hK)
  | nilCheck x => exact .inl (op_nilCheck I he ho hK)
  | alloc T => exact .inl (op_alloc I tt he ho hK)
  | box T x => exact .inl (op_box I he ho hK)
  | store T x y => exact .inl (op_store I tt he ho hK)
  | load T x => exact .inl (op_load I tt he ho hK)
  | fieldAddr T x f => exact .inl (op_fieldAddr I tt he ho hK)
  | field T x f => exact .inl (op_field I tt he ho hK)
  | index T x y => exact .inl (op_index I tt he ho hK)
  | indexAddr T x y => exact .inl (op_indexAddr I tt he ho hK)
  | slice T x lo hi mx => exact .inl (op_slice I tt he ho hK)
  | build T parts => exact .inl (op_build I tt he ho hK)
  | buildSlice T len parts => exact .inl (op_buildSlice I tt he ho hK)
  | makeSlice T l c => exact .inl (op_makeSlice I tt he ho hK)
  | binOp op T x y U => exact .inl (op_binOp I tt he ho hK)
  | unOp op T x => exact .inl (op_unOp I tt he ho hK)
  | convert S T x => exact .inl (op_convert I tt he ho hK)
  | extract x k => exact .inl (op_extract I he ho hK)
  | makeInterface T x => exact .inl (op_makeInterface I tt he ho hK)
  | call c =>
    obtain ⟨callee, args, ts⟩ := c
    cases callee with
    | value f =>
      rw [ho] at hK
      simp only [opR, w_slen, w_sget, w_ssub, w_sset, w_srep, w_scat, BrG_eq, DK_eq, w_ci, w_iand, w_ior, w_ixor, w_ishl, w_ishr, w_wrap, w_tmod, w_lt, w_le, w_eq, w_ne, w_ile, w_ilt, w_tn, w_nadd, w_nsub, w_nlt, w_leb, w_room, w_imax, w_imin] at hK
      split at hK
      · rename_i g hf
        split at hK
        · split at hK
          · split at hK
            · rename_i bs hb
              obtain ⟨r, hC, hσ, hcl, hK⟩ := hK
              have h1 := (getAll_ok _ _ hb).1
              have := op_callRef I ok he ho hf hb hC (ns := []) (by trivial) List.nodup_nil (by simp) (by simp) hσ (K := fun out => out = { v := ren (back (reach h 40 ((args.toList.map ev).flatMap vids) [] ++ [])) r, upd := (reach h 40 ((args.toList.map ev).flatMap vids) [] ++ []).zip ((bs.map (renB (fore (reach h 40 ((args.toList.map ev).flatMap vids) [])))).map (renB (back (reach h 40 ((args.toList.map ev).flatMap vids) [] ++ [])))), rd := reach h 40 ((args.toList.map ev).flatMap vids) [] ++ [] }) rfl
              refine this.map fun out e => ⟨_, hK, ?_, ?_⟩
              · rw [e, List.append_nil]
              · rw [e]
                simp only [List.append_nil, hcl]
                exact (ups_zip_self _ _ hb).symm
            · exact hK.elim
          split at hK
          · rename_i bs hb
            obtain ⟨r, bs', hC, hn, hl, hσ, hK⟩ := hK
            have h1 := (getAll_ok _ _ hb).1
            have hm := (ok.C2 g _ _ r bs' hC)
            exact op_callRef I ok he ho hf hb hC hn (newIds_nodup _ _) hl (by simp [newIds]) hσ hK
          · exact hK.elim
        · split at hK
          · rename_i ds hd
            obtain ⟨r, hC, hK⟩ := hK
            exact op_callPure I ok he ho hf hd hC hK
          · exact hK.elim
      · exact hK.elim
    | invoke r m => rw [ho] at hK; simp only [opR, w_slen, w_sget, w_ssub, w_sset, w_srep, w_scat, BrG_eq, DK_eq, w_ci, w_iand, w_ior, w_ixor, w_ishl, w_ishr, w_wrap, w_tmod, w_lt, w_le, w_eq, w_ne, w_ile, w_ilt, w_tn, w_nadd, w_nsub, w_nlt, w_leb, w_room, w_imax, w_imin] at hK
    | builtin b =>
      cases b with
      | len => exact .inl (op_len I tt he ho hK)
      | append => exact .inl (op_append I tt he ho hK)
      | max => exact .inl (op_max I tt he ho hK)
      | min => exact .inl (op_min I tt he ho hK)
      | copy => exact .inl (op_copy I tt he ho hK)
      | _ =>
        rw [ho] at hK; simp only [opR, w_slen, w_sget, w_ssub, w_sset, w_srep, w_scat, BrG_eq, DK_eq, w_ci, w_iand, w_ior, w_ixor, w_ishl, w_ishr, w_wrap, w_tmod, w_lt, w_le, w_eq, w_ne, w_ile, w_ilt, w_tn, w_nadd, w_nsub, w_nlt, w_leb, w_room, w_imax, w_imin] at hK
  | _ => rw [ho] at hK; simp only [opR, w_slen, w_sget, w_ssub, w_sset, w_srep, w_scat, BrG_eq, DK_eq, w_ci, w_iand, w_ior, w_ixor, w_ishl, w_ishr, w_wrap, w_tmod, w_lt, w_le, w_eq, w_ne, w_ile, w_ilt, w_tn, w_nadd, w_nsub, w_nlt, w_leb, w_room, w_imax, w_imin] at hK

/-- what is shown of some outcome is shown of one -/
theorem opR_ex (hd : draw = true) (hK : opR Ω E draw ev h o.op id K) : ∃ out, opR Ω E draw ev h o.op id (fun x => x = out) ∧ K out := by
  subst hd
  cases ho : o.op with
  | pick c a b =>
    rw [ho] at hK
    simp only [opR, w_slen, w_sget, w_ssub, w_sset, w_srep, w_scat, BrG_eq, DK_eq, w_ci, w_iand, w_ior, w_ixor, w_ishl, w_ishr, w_wrap, w_tmod, w_lt, w_le, w_eq, w_ne, w_ile, w_ilt, w_tn, w_nadd, w_nsub, w_nlt, w_leb, w_room, w_imax, w_imin] at hK ⊢
    split at hK
    · exact ⟨_, rfl, hK⟩
    · exact hK.elim
  | unOp op T x =>
    rw [ho] at hK
    simp only [opR, w_slen, w_sget, w_ssub, w_sset, w_srep, w_scat, BrG_eq, DK_eq, w_ci, w_iand, w_ior, w_ixor, w_ishl, w_ishr, w_wrap, w_tmod, w_lt, w_le, w_eq, w_ne, w_ile, w_ilt, w_tn, w_nadd, w_nsub, w_nlt, w_leb, w_room, w_imax, w_imin] at hK ⊢
    split at hK
    · exact ⟨_, rfl, hK⟩
    · exact ⟨_, rfl, hK⟩
    · exact ⟨_, rfl, hK⟩
    · exact hK.elim
  | store T x y =>
    rw [ho] at hK
    simp only [opR] at hK ⊢
    split at hK
    · split at hK
      · split at hK
        · obtain ⟨a1, a2, hK⟩ := hK; exact ⟨_, ⟨a1, a2, rfl⟩, hK⟩
        · exact hK.elim
      · exact hK.elim
    · split at hK
      · split at hK
        · obtain ⟨a1, a2, a3, a4, hK⟩ := hK
          split at hK
          · rename_i c
            refine ⟨_, ⟨a1, a2, a3, a4, ?_⟩, hK⟩
            rw [if_pos c]
          · rename_i c
            obtain ⟨a5, x0, a6, hK⟩ := hK
            refine ⟨_, ⟨a1, a2, a3, a4, ?_⟩, hK⟩
            rw [if_neg c]
            exact ⟨a5, x0, a6, rfl⟩
        · exact hK.elim
      · exact hK.elim
    · exact hK.elim
  | load T x =>
    rw [ho] at hK
    simp only [opR, w_slen, w_sget, w_ssub, w_sset, w_srep, w_scat, BrG_eq, DK_eq, w_ci, w_iand, w_ior, w_ixor, w_ishl, w_ishr, w_wrap, w_tmod, w_lt, w_le, w_eq, w_ne, w_ile, w_ilt, w_tn, w_nadd, w_nsub, w_nlt, w_leb, w_room, w_imax, w_imin] at hK ⊢
    split at hK
    · split at hK
      · obtain ⟨a1, a2, hK⟩ := hK; exact ⟨_, ⟨a1, a2, rfl⟩, hK⟩
      · exact hK.elim
    · split at hK
      · obtain ⟨a1, x, a2, a3, a4, hK⟩ := hK; exact ⟨_, ⟨a1, x, a2, a3, a4, rfl⟩, hK⟩
      · exact hK.elim
    · obtain ⟨a1, a2, a3, hK⟩ := hK; exact ⟨_, ⟨a1, a2, a3, rfl⟩, hK⟩
    · exact hK.elim
  | buildSlice T len parts =>
    rw [ho] at hK
    simp only [opR, w_slen, w_sget, w_ssub, w_sset, w_srep, w_scat, BrG_eq, DK_eq, w_ci, w_iand, w_ior, w_ixor, w_ishl, w_ishr, w_wrap, w_tmod, w_lt, w_le, w_eq, w_ne, w_ile, w_ilt, w_tn, w_nadd, w_nsub, w_nlt, w_leb, w_room, w_imax, w_imin] at hK ⊢
    split at hK
    · split at hK
      · split at hK
        · split at hK
          · obtain ⟨a1, a2, a3, a4, hK⟩ := hK
            cases hd : (true && !Nat.beq len 0) with
            | true =>
              simp only [hd, if_true] at hK ⊢
              exact ⟨_, ⟨a1, a2, a3, a4, rfl⟩, hK⟩
            | false =>
              simp only [hd, Bool.false_eq_true, if_false] at hK ⊢
              exact ⟨_, ⟨a1, a2, a3, a4, hK.1, rfl⟩, hK.2⟩
          · exact hK.elim
        · exact hK.elim
      · exact hK.elim
    · exact hK.elim
  | call c =>
    obtain ⟨callee, args, ts⟩ := c
    cases callee with
    | invoke r m => rw [ho] at hK; simp only [opR, w_slen, w_sget, w_ssub, w_sset, w_srep, w_scat, BrG_eq, DK_eq, w_ci, w_iand, w_ior, w_ixor, w_ishl, w_ishr, w_wrap, w_tmod, w_lt, w_le, w_eq, w_ne, w_ile, w_ilt, w_tn, w_nadd, w_nsub, w_nlt, w_leb, w_room, w_imax, w_imin] at hK
    | value f =>
      rw [ho] at hK
      simp only [opR, w_slen, w_sget, w_ssub, w_sset, w_srep, w_scat, BrG_eq, DK_eq, w_ci, w_iand, w_ior, w_ixor, w_ishl, w_ishr, w_wrap, w_tmod, w_lt, w_le, w_eq, w_ne, w_ile, w_ilt, w_tn, w_nadd, w_nsub, w_nlt, w_leb, w_room, w_imax, w_imin] at hK ⊢
      split at hK
      · split at hK
        · rename_i hm
          simp only [hm, if_true]
          split at hK
          · rename_i hr
            simp only [hr, if_true]
            split at hK
            · obtain ⟨r, a1, a2, a3, hK⟩ := hK
              exact ⟨_, ⟨r, a1, a2, a3, rfl⟩, hK⟩
            · exact hK.elim
          · rename_i hr
            simp only [hr]
            split at hK
            · obtain ⟨r, bs', a1, a2, a3, a4, hK⟩ := hK
              exact ⟨_, ⟨r, bs', a1, a2, a3, a4, rfl⟩, hK⟩
            · exact hK.elim
        · rename_i hm
          simp only [hm]
          split at hK
          · obtain ⟨r, a1, hK⟩ := hK
            exact ⟨_, ⟨r, a1, rfl⟩, hK⟩
          · exact hK.elim
      · exact hK.elim
    | builtin b =>
      cases b with
      | len =>
        rw [ho] at hK
        simp only [opR, w_slen, w_sget, w_ssub, w_sset, w_srep, w_scat, BrG_eq, DK_eq, w_ci, w_iand, w_ior, w_ixor, w_ishl, w_ishr, w_wrap, w_tmod, w_lt, w_le, w_eq, w_ne, w_ile, w_ilt, w_tn, w_nadd, w_nsub, w_nlt, w_leb, w_room, w_imax, w_imin] at hK ⊢
        split at hK
        · repeat' split at hK
          all_goals first
            | exact hK.elim
            | exact ⟨_, rfl, hK⟩
        · rename_i q _ _; cases q
        · exact hK.elim
      | append =>
        rw [ho] at hK
        simp only [opR, w_slen, w_sget, w_ssub, w_sset, w_srep, w_scat, BrG_eq, DK_eq, w_ci, w_iand, w_ior, w_ixor, w_ishl, w_ishr, w_wrap, w_tmod, w_lt, w_le, w_eq, w_ne, w_ile, w_ilt, w_tn, w_nadd, w_nsub, w_nlt, w_leb, w_room, w_imax, w_imin] at hK ⊢
        split at hK
        · rename_i q _ _; cases q
        · split at hK
          · split at hK
            · obtain ⟨a1, a2, a3, hK⟩ := hK
              split at hK
              · obtain ⟨a4, a5, hK⟩ := hK
                split at hK
                · obtain ⟨a6, hK⟩ := hK
                  exact ⟨_, ⟨a1, a2, a3, a4, a5, a6, rfl⟩, hK⟩
                · split at hK
                  · obtain ⟨b1, b2, b3, b4, hK⟩ := hK
                    exact ⟨_, ⟨a1, a2, a3, a4, a5, b1, b2, b3, b4, rfl⟩, hK⟩
                  · exact hK.elim
                · exact hK.elim
              · exact hK.elim
            · exact hK.elim
          · exact hK.elim
        · exact hK.elim
      | max =>
        rw [ho] at hK
        simp only [opR] at hK ⊢
        split at hK
        · obtain ⟨a1, hK⟩ := hK; exact ⟨_, ⟨a1, rfl⟩, hK⟩
        · exact hK.elim
      | min =>
        rw [ho] at hK
        simp only [opR] at hK ⊢
        split at hK
        · obtain ⟨a1, hK⟩ := hK; exact ⟨_, ⟨a1, rfl⟩, hK⟩
        · exact hK.elim
      | copy =>
        rw [ho] at hK
        simp only [opR] at hK
        cases hK.1
      | _ => rw [ho] at hK; simp only [opR, w_slen, w_sget, w_ssub, w_sset, w_srep, w_scat, BrG_eq, DK_eq, w_ci, w_iand, w_ior, w_ixor, w_ishl, w_ishr, w_wrap, w_tmod, w_lt, w_le, w_eq, w_ne, w_ile, w_ilt, w_tn, w_nadd, w_nsub, w_nlt, w_leb, w_room, w_imax, w_imin] at hK
  | slice T x lo hi mx =>
    rw [ho] at hK
    simp only [opR] at hK ⊢
    by_cases c : lo = none ∧ mx.isSome = true
    · simp only [if_pos c] at hK ⊢
      repeat' split at hK
      all_goals first
        | exact hK.elim
        | (obtain ⟨a1, a2, a3, a4, hK⟩ := hK; exact ⟨_, ⟨a1, a2, a3, a4, rfl⟩, hK⟩)
        | (obtain ⟨a1, a2, a3, a4, a5, hK⟩ := hK; exact ⟨_, ⟨a1, a2, a3, a4, a5, rfl⟩, hK⟩)
        | (obtain ⟨a1, a2, a3, a4, a5, a6, hK⟩ := hK; exact ⟨_, ⟨a1, a2, a3, a4, a5, a6, rfl⟩, hK⟩)
        | (obtain ⟨a1, a2, a3, a4, a5, a6, a7, hK⟩ := hK; exact ⟨_, ⟨a1, a2, a3, a4, a5, a6, a7, rfl⟩, hK⟩)
    · simp only [if_neg c] at hK ⊢
      repeat' split at hK
      all_goals first
        | exact hK.elim
        | (obtain ⟨a1, a2, a3, a4, hK⟩ := hK; exact ⟨_, ⟨a1, a2, a3, a4, rfl⟩, hK⟩)
        | (obtain ⟨a1, a2, a3, a4, a5, hK⟩ := hK; exact ⟨_, ⟨a1, a2, a3, a4, a5, rfl⟩, hK⟩)
        | (obtain ⟨a1, a2, a3, a4, a5, a6, hK⟩ := hK; exact ⟨_, ⟨a1, a2, a3, a4, a5, a6, rfl⟩, hK⟩)
        | (obtain ⟨a1, a2, a3, a4, a5, a6, a7, hK⟩ := hK; exact ⟨_, ⟨a1, a2, a3, a4, a5, a6, a7, rfl⟩, hK⟩)
  | _ =>
    rw [ho] at hK
    simp only [opR, w_slen, w_sget, w_ssub, w_sset, w_srep, w_scat, BrG_eq, DK_eq, w_ci, w_iand, w_ior, w_ixor, w_ishl, w_ishr, w_wrap, w_tmod, w_lt, w_le, w_eq, w_ne, w_ile, w_ilt, w_tn, w_nadd, w_nsub, w_nlt, w_leb, w_room, w_imax, w_imin] at hK ⊢
    repeat' split at hK
    all_goals first
      | exact hK.elim
      | exact ⟨_, rfl, hK⟩
      | (obtain ⟨a1, hK⟩ := hK; exact ⟨_, ⟨a1, rfl⟩, hK⟩)
      | (obtain ⟨a1, a2, hK⟩ := hK; exact ⟨_, ⟨a1, a2, rfl⟩, hK⟩)
      | (obtain ⟨a1, a2, a3, hK⟩ := hK; exact ⟨_, ⟨a1, a2, a3, rfl⟩, hK⟩)
      | (obtain ⟨a1, a2, a3, a4, hK⟩ := hK; exact ⟨_, ⟨a1, a2, a3, a4, rfl⟩, hK⟩)
      | (obtain ⟨a1, a2, a3, a4, a5, hK⟩ := hK; exact ⟨_, ⟨a1, a2, a3, a4, a5, rfl⟩, hK⟩)
      | (obtain ⟨a1, a2, a3, a4, a5, a6, hK⟩ := hK; exact ⟨_, ⟨a1, a2, a3, a4, a5, a6, rfl⟩, hK⟩)
      | (obtain ⟨a1, a2, a3, a4, a5, a6, a7, hK⟩ := hK; exact ⟨_, ⟨a1, a2, a3, a4, a5, a6, a7, rfl⟩, hK⟩)
      | (obtain ⟨a1, a2, a3, a4, a5, a6, a7, a8, hK⟩ := hK; exact ⟨_, ⟨a1, a2, a3, a4, a5, a6, a7, a8, rfl⟩, hK⟩)
      | (obtain ⟨a1, x, a2, hK⟩ := hK; exact ⟨_, ⟨a1, x, a2, rfl⟩, hK⟩)
      | (obtain ⟨a1, x, a2, a3, hK⟩ := hK; exact ⟨_, ⟨a1, x, a2, a3, rfl⟩, hK⟩)
      | (cases hK.1)
      | exact hK.2.elim


theorem idsOf_constV (z : Value) : idsOf (constV z) = [] := by
  have one : ∀ y, ids1 (const1 y) = [] := fun y => by
    unfold const1; split <;> rfl
  unfold constV
  split
  · split
    · simp only [idsOf]
      rename_i cs _
      have : ∀ l : List Value, (l.map const1).flatMap ids1 = [] := fun l => by
        induction l with
        | nil => rfl
        | cons a r ih => simp only [List.map_cons, List.flatMap_cons, one, ih, List.append_nil]
      exact this _
    · rfl
  · rename_i v hv
    have h0 := one z
    generalize hq : const1 z = q at h0
    cases q with
    | agg cs => exfalso; unfold const1 at hq; split at hq <;> cases hq
    | _ => exact h0

theorem toD1_local {h2 : Heap} {x : V} (ha : ∀ j, j ∈ ids1 x → h2 j = h j) : toD1 Ω h2 x = toD1 Ω h x := by
  cases x with
  | own i sz => simp only [toD1, ha i (by simp [ids1])]
  | ref i sz off len => simp only [toD1, ha i (by simp [ids1])]
  | _ => rfl
theorem allD_local {h2 : Heap} : ∀ (l : List V), (∀ j, j ∈ l.flatMap ids1 → h2 j = h j) → allD Ω h2 l = allD Ω h l
  | [], _ => rfl
  | a :: r, ha => by
    simp only [allD]
    rw [toD1_local fun j hj => ha j (by simp [hj]), allD_local r fun j hj => ha j (by simp only [List.flatMap_cons, List.mem_append]; exact .inr hj)]
theorem toD_local {h2 : Heap} {x : V} (ha : ∀ j, j ∈ idsOf x → h2 j = h j) : toD Ω h2 x = toD Ω h x := by
  cases x with
  | agg cs => simp only [toD, allD_local cs ha]
  | own i sz => exact toD1_local (x := .own i sz) ha
  | ref i sz off len => exact toD1_local (x := .ref i sz off len) ha
  | _ => rfl
theorem toDs_local {h2 : Heap} : ∀ (l : List V), (∀ j, j ∈ l.flatMap idsOf → h2 j = h j) → toDs Ω h2 l = toDs Ω h l
  | [], _ => rfl
  | a :: r, ha => by
    simp only [toDs]
    rw [toD_local fun j hj => ha j (by simp [hj]), toDs_local r fun j hj => ha j (by simp only [List.flatMap_cons, List.mem_append]; exact .inr hj)]
theorem partsD_local {h2 : Heap} : ∀ (l : List (Nat × V)), (∀ j, j ∈ (l.map Prod.snd).flatMap idsOf → h2 j = h j) → partsD Ω h2 l = partsD Ω h l
  | [], _ => rfl
  | (i, a) :: r, ha => by
    simp only [partsD]
    rw [toD_local fun j hj => ha j (by simp [hj]), partsD_local r fun j hj => ha j (by simp only [List.map_cons, List.flatMap_cons, List.mem_append]; exact .inr hj)]
theorem freezeL_local {h2 : Heap} : ∀ (l : List Nat), (∀ j, j ∈ l → h2 j = h j) → freezeL h2 l = freezeL h l
  | [], _ => rfl
  | a :: r, ha => by
    simp only [freezeL]
    rw [ha a (by simp), freezeL_local r fun j hj => ha j (by simp [hj])]
theorem getAll_local {h2 : Heap} : ∀ (l : List Nat), (∀ j, j ∈ l → h2 j = h j) → getAll h2 l = getAll h l
  | [], _ => rfl
  | a :: r, ha => by
    simp only [getAll]
    rw [ha a (by simp), getAll_local r fun j hj => ha j (by simp [hj])]
theorem allNew_local {h2 : Heap} : ∀ (l : List Nat), (∀ j, j ∈ l → h2 j = h j) → allNew h l → allNew h2 l
  | [], _, _ => trivial
  | a :: r, ha, hn => ⟨(ha a (by simp)).trans hn.1, allNew_local r (fun j hj => ha j (by simp [hj])) hn.2⟩
theorem reach_mono {h2 : Heap} : ∀ (n : Nat) (l acc : List Nat), ∀ j, j ∈ acc → j ∈ reach h n l acc
  | 0, _, _, _, hj => hj
  | _ + 1, [], _, _, hj => hj
  | n + 1, i :: r, acc, j, hj => by
    simp only [reach]
    split
    · exact reach_mono (h2 := h2) n r acc j hj
    · split
      · exact reach_mono (h2 := h2) n _ _ j (by simp [hj])
      · exact reach_mono (h2 := h2) n _ _ j (by simp [hj])
theorem reach_local {h2 : Heap} : ∀ (n : Nat) (l acc : List Nat), (∀ j, j ∈ reach h n l acc → h2 j = h j) → reach h2 n l acc = reach h n l acc
  | 0, _, _, _ => rfl
  | _ + 1, [], _, _ => rfl
  | n + 1, i :: r, acc, ha => by
    simp only [reach] at ha ⊢
    by_cases c : acc.contains i = true
    · simp only [if_pos c] at ha ⊢
      exact reach_local n r acc ha
    · simp only [if_neg c] at ha ⊢
      have hi : h2 i = h i := by
        refine ha i ?_
        split
        · exact reach_mono (h2 := h2) n _ _ i (by simp)
        · exact reach_mono (h2 := h2) n _ _ i (by simp)
      rw [hi]
      split
      · rename_i cs hcs
        refine reach_local n _ _ fun j hj => ha j ?_
        rw [hcs]; exact hj
      · rename_i hne
        refine reach_local n _ _ fun j hj => ha j ?_
        split
        · rename_i cs hcs; exact absurd hcs (hne cs)
        · exact hj

/-- what an operation comes to hangs on the blocks alone that it looks at -/
theorem opR_local {h2 : Heap} {out : Out} (hK : opR Ω E draw ev h o.op id (fun x => x = out)) (ha : ∀ j, j ∈ out.rd → h2 j = h j) : opR Ω E draw ev h2 o.op id (fun x => x = out) := by
  cases ho : o.op with
  | alloc T =>
    rw [ho] at hK
    simp only [opR, w_slen, w_sget, w_ssub, w_sset, w_srep, w_scat, BrG_eq, DK_eq, w_ci, w_iand, w_ior, w_ixor, w_ishl, w_ishr, w_wrap, w_tmod, w_lt, w_le, w_eq, w_ne, w_ile, w_ilt, w_tn, w_nadd, w_nsub, w_nlt, w_leb, w_room, w_imax, w_imin] at hK ⊢
    split at hK
    · split at hK
      · obtain ⟨a1, rfl⟩ := hK
        exact ⟨(ha id (by simp)).trans a1, rfl⟩
      · exact hK.elim
    · exact hK.elim
  | box T x =>
    rw [ho] at hK
    simp only [opR, w_slen, w_sget, w_ssub, w_sset, w_srep, w_scat, BrG_eq, DK_eq, w_ci, w_iand, w_ior, w_ixor, w_ishl, w_ishr, w_wrap, w_tmod, w_lt, w_le, w_eq, w_ne, w_ile, w_ilt, w_tn, w_nadd, w_nsub, w_nlt, w_leb, w_room, w_imax, w_imin] at hK ⊢
    split at hK
    · obtain ⟨a1, rfl⟩ := hK
      exact ⟨(ha id (by simp)).trans a1, rfl⟩
    · exact hK.elim
  | store T x y =>
    rw [ho] at hK
    simp only [opR, w_slen, w_sget, w_ssub, w_sset, w_srep, w_scat, BrG_eq, DK_eq, w_ci, w_iand, w_ior, w_ixor, w_ishl, w_ishr, w_wrap, w_tmod, w_lt, w_le, w_eq, w_ne, w_ile, w_ilt, w_tn, w_nadd, w_nsub, w_nlt, w_leb, w_room, w_imax, w_imin] at hK ⊢
    split at hK
    · split at hK
      · rename_i hj
        split at hK
        · obtain ⟨a1, a2, rfl⟩ := hK
          have := ha _ (List.Mem.head _)
          simp only [this, hj]
          exact ⟨a1, a2, trivial⟩
        · exact hK.elim
      · exact hK.elim
    · split at hK
      · rename_i hj
        split at hK
        · rename_i hy
          obtain ⟨a1, a2, a3, a4, hK⟩ := hK
          split at hK
          · rename_i c
            subst hK
            have h1 := ha _ (List.Mem.head _)
            have h2' : toD Ω h2 (ev y) = toD Ω h (ev y) := toD_local fun j hj => ha j (List.Mem.tail _ hj)
            have h3 : freezeL h2 (idsOf (ev y)) = freezeL h (idsOf (ev y)) := freezeL_local _ fun j hj => ha j (List.Mem.tail _ hj)
            simp only [h1, hj, h2', hy, h3, if_pos c]
            exact ⟨a1, a2, a3, a4, trivial⟩
          · rename_i c
            obtain ⟨a5, x0, a6, rfl⟩ := hK
            have h1 := ha _ (List.Mem.head _)
            have h2' : toD Ω h2 (ev y) = toD Ω h (ev y) := toD_local fun j hj => ha j (List.Mem.tail _ hj)
            have h3 : freezeL h2 (idsOf (ev y)) = freezeL h (idsOf (ev y)) := freezeL_local _ fun j hj => ha j (List.Mem.tail _ hj)
            simp only [h1, hj, h2', hy, h3, if_neg c]
            exact ⟨a1, a2, a3, a4, a5, x0, a6, rfl⟩
        · exact hK.elim
      · exact hK.elim
    · exact hK.elim
  | load T x =>
    rw [ho] at hK
    simp only [opR, w_slen, w_sget, w_ssub, w_sset, w_srep, w_scat, BrG_eq, DK_eq, w_ci, w_iand, w_ior, w_ixor, w_ishl, w_ishr, w_wrap, w_tmod, w_lt, w_le, w_eq, w_ne, w_ile, w_ilt, w_tn, w_nadd, w_nsub, w_nlt, w_leb, w_room, w_imax, w_imin] at hK ⊢
    split at hK
    · split at hK
      · rename_i hj
        obtain ⟨a1, a2, rfl⟩ := hK
        have := ha _ (List.Mem.head _)
        simp only [this, hj]
        exact ⟨a1, a2, trivial⟩
      · exact hK.elim
    · split at hK
      · rename_i hj
        obtain ⟨a1, x, a2, a3, a4, rfl⟩ := hK
        have := ha _ (List.Mem.head _)
        simp only [this, hj]
        exact ⟨a1, x, a2, a3, a4, rfl⟩
      · exact hK.elim
    · exact hK
    · exact hK.elim
  | indexAddr T x y =>
    rw [ho] at hK
    simp only [opR, w_slen, w_sget, w_ssub, w_sset, w_srep, w_scat, BrG_eq, DK_eq, w_ci, w_iand, w_ior, w_ixor, w_ishl, w_ishr, w_wrap, w_tmod, w_lt, w_le, w_eq, w_ne, w_ile, w_ilt, w_tn, w_nadd, w_nsub, w_nlt, w_leb, w_room, w_imax, w_imin] at hK ⊢
    split at hK
    · exact hK
    · split at hK
      · split at hK
        · exact hK
        · split at hK
          · rename_i hj
            obtain ⟨a1, a2, a3, a4, rfl⟩ := hK
            have := ha _ (List.Mem.head _)
            simp only [this, hj]
            exact ⟨a1, a2, a3, a4, trivial⟩
          · exact hK.elim
        · exact hK
        · exact hK.elim
      · exact hK.elim
    · exact hK.elim
  | slice T x lo hi mx =>
    rw [ho] at hK
    simp only [opR, w_slen, w_sget, w_ssub, w_sset, w_srep, w_scat, BrG_eq, DK_eq, w_ci, w_iand, w_ior, w_ixor, w_ishl, w_ishr, w_wrap, w_tmod, w_lt, w_le, w_eq, w_ne, w_ile, w_ilt, w_tn, w_nadd, w_nsub, w_nlt, w_leb, w_room, w_imax, w_imin] at hK ⊢
    split at hK
    · split at hK
      · split at hK
        · exact hK
        · split at hK
          · rename_i hj
            split at hK
            · rename_i c
              split at hK
              · rename_i q1 q2
                obtain ⟨a1, a2, a3, a4, a5, a6, a7, rfl⟩ := hK
                have g1 := ha _ (List.Mem.head _)
                have g2 := ha _ (List.Mem.tail _ (List.Mem.head _))
                simp only [g2, hj, if_pos c, q1, q2]
                exact ⟨a1, a2, a3, a4, a5, a6, g1.trans a7, trivial⟩
              · exact hK.elim
            · rename_i c
              split at hK
              · rename_i q1 q2 q3
                obtain ⟨a1, a2, a3, a4, a5, a6, a7, rfl⟩ := hK
                have := ha _ (List.Mem.head _)
                simp only [this, hj, if_neg c, q1, q2, q3]
                exact ⟨a1, a2, a3, a4, a5, a6, a7, trivial⟩
              · exact hK.elim
          · exact hK.elim
        · exact hK
        · exact hK.elim
      · exact hK.elim
    · exact hK
    · exact hK.elim
  | buildSlice T len parts =>
    rw [ho] at hK
    simp only [opR, w_slen, w_sget, w_ssub, w_sset, w_srep, w_scat, BrG_eq, DK_eq, w_ci, w_iand, w_ior, w_ixor, w_ishl, w_ishr, w_wrap, w_tmod, w_lt, w_le, w_eq, w_ne, w_ile, w_ilt, w_tn, w_nadd, w_nsub, w_nlt, w_leb, w_room, w_imax, w_imin] at hK ⊢
    split at hK
    · split at hK
      · split at hK
        · rename_i q1
          split at hK
          · rename_i q2
            obtain ⟨a1, a2, a3, a4, hK⟩ := hK
            have key : (∀ j, j ∈ (parts.toList.map fun p => ev p.2).flatMap idsOf → h2 j = h j) → partsD Ω h2 (parts.toList.map fun p => (p.1, ev p.2)) = partsD Ω h (parts.toList.map fun p => (p.1, ev p.2)) ∧
                freezeL h2 ((parts.toList.map fun p => ev p.2).flatMap idsOf) = freezeL h ((parts.toList.map fun p => ev p.2).flatMap idsOf) := fun hh => by
              refine ⟨partsD_local _ ?_, freezeL_local _ hh⟩
              simpa [List.map_map, Function.comp_def] using hh
            cases hd : (draw && !Nat.beq len 0) with
            | true =>
              simp only [hd, if_true] at hK ⊢
              subst hK
              obtain ⟨k1, k2⟩ := key fun j hj => ha j hj
              simp only [k1, q1, q2, k2]
              exact ⟨a1, a2, a3, a4, trivial⟩
            | false =>
              simp only [hd, Bool.false_eq_true, if_false] at hK ⊢
              obtain ⟨a5, rfl⟩ := hK
              obtain ⟨k1, k2⟩ := key fun j hj => ha j (List.Mem.tail _ hj)
              have h1 := ha _ (List.Mem.head _)
              simp only [k1, q1, q2, k2, h1]
              exact ⟨a1, a2, a3, a4, a5, trivial⟩
          · exact hK.elim
        · exact hK.elim
      · exact hK.elim
    · exact hK.elim
  | makeSlice T l c =>
    rw [ho] at hK
    simp only [opR, w_slen, w_sget, w_ssub, w_sset, w_srep, w_scat, BrG_eq, DK_eq, w_ci, w_iand, w_ior, w_ixor, w_ishl, w_ishr, w_wrap, w_tmod, w_lt, w_le, w_eq, w_ne, w_ile, w_ilt, w_tn, w_nadd, w_nsub, w_nlt, w_leb, w_room, w_imax, w_imin] at hK ⊢
    split at hK
    · split at hK
      · split at hK
        · split at hK
          · rename_i q
            obtain ⟨a0, a1, a2, a3, a4, a5, a6, rfl⟩ := hK
            have h1 := ha _ (List.Mem.head _)
            have q2 := (toD_local (h2 := h2) (h := h) (fun j hj => by rw [idsOf_constV] at hj; exact absurd hj List.not_mem_nil)).trans q
            simp only [q2]
            exact ⟨h1.trans a0, a1, a2, a3, a4, a5, a6, trivial⟩
          · exact hK.elim
        · exact hK.elim
      · exact hK.elim
    · exact hK.elim
  | call c =>
    obtain ⟨callee, args, ts⟩ := c
    cases callee with
    | invoke r m => rw [ho] at hK; simp only [opR, w_slen, w_sget, w_ssub, w_sset, w_srep, w_scat, BrG_eq, DK_eq, w_ci, w_iand, w_ior, w_ixor, w_ishl, w_ishr, w_wrap, w_tmod, w_lt, w_le, w_eq, w_ne, w_ile, w_ilt, w_tn, w_nadd, w_nsub, w_nlt, w_leb, w_room, w_imax, w_imin] at hK
    | value f =>
      rw [ho] at hK
      simp only [opR, w_slen, w_sget, w_ssub, w_sset, w_srep, w_scat, BrG_eq, DK_eq, w_ci, w_iand, w_ior, w_ixor, w_ishl, w_ishr, w_wrap, w_tmod, w_lt, w_le, w_eq, w_ne, w_ile, w_ilt, w_tn, w_nadd, w_nsub, w_nlt, w_leb, w_room, w_imax, w_imin] at hK ⊢
      split at hK
      · split at hK
        · rename_i hm
          simp only [hm, if_true]
          split at hK
          · rename_i hro
            simp only [hro, if_true]
            split at hK
            · rename_i q
              obtain ⟨r, a1, a2, a3, rfl⟩ := hK
              have hr : reach h2 40 ((args.toList.map ev).flatMap vids) [] = reach h 40 ((args.toList.map ev).flatMap vids) [] := reach_local _ _ _ fun j hj => ha j hj
              have hg : getAll h2 (reach h 40 ((args.toList.map ev).flatMap vids) []) = getAll h (reach h 40 ((args.toList.map ev).flatMap vids) []) := getAll_local _ fun j hj => ha j hj
              simp only [hr, hg, q]
              exact ⟨r, a1, a2, a3, rfl⟩
            · exact hK.elim
          rename_i hro
          simp only [hro]
          split at hK
          · rename_i q
            obtain ⟨r, bs', a1, a2, a3, a4, rfl⟩ := hK
            have hr : reach h2 40 ((args.toList.map ev).flatMap vids) [] = reach h 40 ((args.toList.map ev).flatMap vids) [] := reach_local _ _ _ fun j hj => ha j (List.mem_append_left _ hj)
            have hg : getAll h2 (reach h 40 ((args.toList.map ev).flatMap vids) []) = getAll h (reach h 40 ((args.toList.map ev).flatMap vids) []) := getAll_local _ fun j hj => ha j (List.mem_append_left _ hj)
            simp only [hr, hg, q]
            exact ⟨r, bs', a1, allNew_local _ (fun j hj => ha j (List.mem_append_right _ hj)) a2, a3, a4, rfl⟩
          · exact hK.elim
        · rename_i hm
          simp only [hm]
          split at hK
          · rename_i q
            obtain ⟨r, a1, rfl⟩ := hK
            have h1 : toDs Ω h2 (args.toList.map ev) = toDs Ω h (args.toList.map ev) := toDs_local _ fun j hj => ha j hj
            have h3 : freezeL h2 ((args.toList.map ev).flatMap idsOf) = freezeL h ((args.toList.map ev).flatMap idsOf) := freezeL_local _ fun j hj => ha j hj
            simp only [h1, q, h3]
            exact ⟨r, a1, rfl⟩
          · exact hK.elim
      · exact hK.elim
    | builtin b =>
      cases b with
      | len =>
        rw [ho] at hK
        simp only [opR, w_slen, w_sget, w_ssub, w_sset, w_srep, w_scat, BrG_eq, DK_eq, w_ci, w_iand, w_ior, w_ixor, w_ishl, w_ishr, w_wrap, w_tmod, w_lt, w_le, w_eq, w_ne, w_ile, w_ilt, w_tn, w_nadd, w_nsub, w_nlt, w_leb, w_room, w_imax, w_imin] at hK ⊢
        split at hK
        · split at hK
          · exact hK
          · exact hK
          · split at hK
            · rename_i hj
              subst hK
              have := ha _ (List.Mem.head _)
              simp only [this, hj]
            · exact hK.elim
          · exact hK
          · exact hK
          · exact hK
          · exact hK.elim
        · rename_i q _ _; cases q
        · exact hK.elim
      | append =>
        rw [ho] at hK
        simp only [opR, w_slen, w_sget, w_ssub, w_sset, w_srep, w_scat, BrG_eq, DK_eq, w_ci, w_iand, w_ior, w_ixor, w_ishl, w_ishr, w_wrap, w_tmod, w_lt, w_le, w_eq, w_ne, w_ile, w_ilt, w_tn, w_nadd, w_nsub, w_nlt, w_leb, w_room, w_imax, w_imin] at hK ⊢
        split at hK
        · rename_i q _ _; cases q
        · rename_i x y T U _ hargs hts
          split at hK
          · split at hK
            · obtain ⟨a1, a2, a3, hK⟩ := hK
              split at hK
              · rename_i q
                obtain ⟨a4, a5, hK⟩ := hK
                split at hK
                · obtain ⟨a6, rfl⟩ := hK
                  have h1 := ha _ (List.Mem.head _)
                  have hy : toD Ω h2 y = toD Ω h y := toD_local fun j hj => ha j (List.Mem.tail _ hj)
                  have h3 : freezeL h2 (idsOf y) = freezeL h (idsOf y) := freezeL_local _ fun j hj => ha j (List.Mem.tail _ hj)
                  simp only [hy, q, h3]
                  exact ⟨a1, a2, a3, h1.trans a4, a5, a6, trivial⟩
                · split at hK
                  · rename_i hj
                    obtain ⟨b1, b2, b3, b4, rfl⟩ := hK
                    have h1 := ha _ (List.Mem.head _)
                    have h1' := ha _ (List.Mem.tail _ (List.Mem.head _))
                    have hy : toD Ω h2 y = toD Ω h y := toD_local fun j hj => ha j (List.Mem.tail _ (List.Mem.tail _ hj))
                    have h3 : freezeL h2 (idsOf y) = freezeL h (idsOf y) := freezeL_local _ fun j hj => ha j (List.Mem.tail _ (List.Mem.tail _ hj))
                    simp only [hy, q, h3, h1', hj]
                    exact ⟨a1, a2, a3, h1.trans a4, a5, b1, b2, b3, b4, trivial⟩
                  · exact hK.elim
                · exact hK.elim
              · exact hK.elim
            · exact hK.elim
          · exact hK.elim
        · exact hK.elim
      | max => rw [ho] at hK; simp only [opR] at hK ⊢; exact hK
      | min => rw [ho] at hK; simp only [opR] at hK ⊢; exact hK
      | copy =>
        rw [ho] at hK
        simp only [opR] at hK ⊢
        obtain ⟨a0, hK⟩ := hK
        refine ⟨a0, ?_⟩
        split at hK
        · rename_i y _ _ _ _
          split at hK
          · rename_i q1 q2 q3
            split at hK
            · rename_i q4
              obtain ⟨a1, a2, a3, a4, a5, a6, rfl⟩ := hK
              have h1 := ha _ (List.Mem.head _)
              have hy : toD Ω h2 y = toD Ω h y := toD_local fun j hj => ha j (List.Mem.tail _ hj)
              have h3 : freezeL h2 (idsOf y) = freezeL h (idsOf y) := freezeL_local _ fun j hj => ha j (List.Mem.tail _ hj)
              simp only [hy, h1, q1, q2, q3, q4, h3]
              exact ⟨a1, a2, a3, a4, a5, a6, trivial⟩
            · exact hK.elim
          · exact hK.elim
        · exact hK.elim
      | _ => rw [ho] at hK; simp only [opR, w_slen, w_sget, w_ssub, w_sset, w_srep, w_scat, BrG_eq, DK_eq, w_ci, w_iand, w_ior, w_ixor, w_ishl, w_ishr, w_wrap, w_tmod, w_lt, w_le, w_eq, w_ne, w_ile, w_ilt, w_tn, w_nadd, w_nsub, w_nlt, w_leb, w_room, w_imax, w_imin] at hK
  | _ =>
    rw [ho] at hK
    simpa only [opR] using hK

end
end Go.K
end
section
/-
  K, part 16: regions whose order is that of the text.
-/
namespace Go.K
open Go
set_option linter.unusedSectionVars false
set_option linter.unusedVariables false
set_option linter.unusedSimpArgs false

/-- where a function began -/
structure Base where
  ι : Nat → Option Value
  imm : Nat → Prop
  h : Heap
  w : World

/-- the machine's frame and world are as the abstract state says -/
def Sim (B : Base) (n : Nat) (s : St) (a : Act) (w : World) : Prop :=
  ∃ ι imm, Evo B.ι B.imm B.h B.w ι imm s.h w ∧ Inv ι imm s.h w ∧ a.tmps.size = n ∧ a.defers = [] ∧ ∀ t, RepV ι imm w (s.sl t) (a.tmps.getD t undef)

theorem Inv.sameHeap {ι : Nat → Option Value} {imm : Nat → Prop} {h : Heap} {w w' : World} (I : Inv ι imm h w) (e : w'.heap = w.heap) : Inv ι imm h w' :=
  ⟨fun id B hid => let ⟨v, h1, h2⟩ := I.blk id B hid; ⟨v, h1, h2.mono (fun _ _ q => q) (fun g hg => ⟨hg, by rw [e]⟩) fun g _ _ => by rw [e]⟩, I.non, I.own, I.inj, fun g hg => by rw [e]; exact I.lt g hg⟩

theorem Sim.drew {B : Base} {n : Nat} {s : St} {a : Act} {w : World} (h : Sim B n s a w) : Sim B n s a { w with drawn := w.drawn + 1 } := by
  obtain ⟨ι, imm, e, I, h1, h2, h3⟩ := h
  exact ⟨ι, imm, ⟨e.ids, e.immS, e.immR, e.own', e.keep, e.size, e.os, e.tape, e.output⟩, I.sameHeap rfl, h1, h2, fun t => RepV.mono (w := w) (w' := { w with drawn := w.drawn + 1 }) (fun _ _ q => q) (fun g hg => ⟨hg, rfl⟩) (h3 t)⟩

theorem ev_rep {ι : Nat → Option Value} {imm : Nat → Prop} {w : World} {s : Nat → V} {a : Act} (h : ∀ t, RepV ι imm w (s t) (a.tmps.getD t undef)) (x : Operand) : RepV ι imm w (ev s x) (a.eval x) := by
  cases x with
  | tmp t => exact h t
  | const v => exact constV_rep _ _ _ v
  | global g => trivial
  | func f => exact rfl

theorem put_rep {ι : Nat → Option Value} {imm : Nat → Prop} {w : World} {s : Nat → V} {a : Act} {n : Nat} (hn : a.tmps.size = n) (h : ∀ t, RepV ι imm w (s t) (a.tmps.getD t undef)) {d : Option Tmp} (hd : ∀ t, d = some t → t < n)
    {x : V} {v : Value} (hv : RepV ι imm w x v) : ∀ t, RepV ι imm w (put s d x t) ((a.put d v).tmps.getD t undef) := by
  intro t
  cases d with
  | none => exact h t
  | some d =>
    have hlt : d < n := hd d rfl
    simp only [put, Act.put]
    by_cases c : t = d
    · subst c
      rw [upd_same]
      have : (a.tmps.setIfInBounds t v).getD t undef = v := by
        have : t < a.tmps.size := by rw [hn]; exact hlt
        simp [Array.getD, this]
      rw [this]; exact hv
    · rw [upd_other _ _ _ _ c]
      have : (a.tmps.setIfInBounds d v).getD t undef = a.tmps.getD t undef := by
        simp only [Array.getD_eq_getD_getElem?, Array.getElem?_setIfInBounds, if_neg (Ne.symm c)]
      rw [this]; exact h t

/-- is the operation carried out? -/
def guardOf (ops : Array Oper) (s : Nat → V) (o : Oper) : Option Bool :=
  match o.guard with
  | none => some true
  | some (j, want) => match (ops[j]?).bind (·.dst) with
    | some t => match s t with
      | .d (.b x) => some (decide (x = want))
      | .tup [] => some false
      | _ => none
    | none => none

theorem guard_rep {ι : Nat → Option Value} {imm : Nat → Prop} {w : World} {s : Nat → V} {a : Act} (h : ∀ t, RepV ι imm w (s t) (a.tmps.getD t undef)) {ops : Array Oper} {o : Oper} {b : Bool} (hg : guardOf ops s o = some b) :
    Region.wanted o (yielded ops a.tmps) = b := by
  unfold guardOf at hg
  unfold Region.wanted
  cases hgd : o.guard with
  | none => rw [hgd] at hg; cases hg; rfl
  | some p =>
    obtain ⟨j, want⟩ := p
    rw [hgd] at hg
    simp only at hg ⊢
    split at hg
    · rename_i t ht
      split at hg
      · rename_i x hx
        cases hg
        have h1 := h t
        rw [hx] at h1
        have h2 := repB h1
        have hlt : t < a.tmps.size := by
          rcases Nat.lt_or_ge t a.tmps.size with q | q
          · exact q
          · rw [Array.getD_eq_getD_getElem?, Array.getElem?_eq_none (by omega)] at h2; cases h2
        have h3 : a.tmps[t]? = some (.bool x) := by
          rw [← h2]; simp [Array.getD, hlt]
        simp only [yielded, ht, Option.bind_some, h3]
        cases x <;> cases want <;> rfl
      · rename_i hx
        cases hg
        have h1 := h t
        rw [hx] at h1
        obtain ⟨vs, h2, h4, _⟩ := h1
        have h3 : ∀ y, a.tmps[t]? = some y → y = .tuple vs := fun y hy => by
          rw [← h2]; simp [Array.getD_eq_getD_getElem?, hy]
        have h5 : yielded ops a.tmps j = none := by
          simp only [yielded, ht, Option.bind_some]
          cases hy : a.tmps[t]? with
          | none => rfl
          | some y => rw [h3 y hy]
        rw [h5]
        cases want <;> rfl
      · cases hg
    · cases hg

section
variable {P : Program} {E : Env} {B : Base} {n : Nat}

/-- one operation -/
theorem oper_sound (ok : EnvOk P E) {draw : Bool} {s : St} {a : Act} {w : World} (S : Sim B n s a w) {o : Oper} {id : Nat} {K : Out → Prop} (hK : opR Ω E draw (ev s.sl) s.h o.op id K) (hd : ∀ t, o.dst = some t → t < n)
    {next : Act → World → Prop} {Q : Exit → Act → World → Prop} (hn : ∀ out a' w', K out → Sim B n (step s o.dst out) a' w' → next a' w') : o.wp P a w next Q := by
  obtain ⟨ι, imm, e, I, h1, h2, h3⟩ := S
  have hput : ∀ v, (a.put o.dst v).tmps.size = n := fun v => by cases o.dst <;> simp [Act.put, h1]
  have hdef : ∀ v, (a.put o.dst v).defers = [] := fun v => by cases o.dst <;> simp [Act.put, h2]
  unfold Oper.wp
  rcases op_sound ok I (ev_rep h3) hK with ⟨out, v, w', ι', imm', hr, hk, e', I', hv⟩ | ⟨g, vs, hr, hc⟩
  · have fin := hn out (a.put o.dst v) w' hk ⟨ι', imm', e.trans e', I', hput v, hdef v, put_rep h1 (fun t => (h3 t).evo I e') hd hv⟩
    rcases hr with hr | ⟨hr, rfl⟩
    · rw [hr]; exact fin
    · rw [hr]; exact fin
  · rw [hr]
    simp only [Oper.upon]
    refine hc.mono ?_
    rintro e0 w' ⟨v, out, ι', imm', rfl, hk, e', I', hv⟩
    exact hn out (a.put o.dst v) w' hk ⟨ι', imm', e.trans e', I', hput v, hdef v, put_rep h1 (fun t => (h3 t).evo I e') hd hv⟩

/-- an operation that is passed over -/
theorem skip_sound {s : St} {a : Act} {w : World} (S : Sim B n s a w) {o : Oper} (hd : ∀ t, o.dst = some t → t < n) : Sim B n (step s o.dst { v := .tup [] }) (a.put o.dst undef) w := by
  obtain ⟨ι, imm, e, I, h1, h2, h3⟩ := S
  exact ⟨ι, imm, e, I, by cases o.dst <;> simp [Act.put, h1], by cases o.dst <;> simp [Act.put, h2], put_rep h1 h3 hd (x := .tup []) ⟨#[], rfl, rfl, fun j hj => absurd hj (Nat.not_lt_zero _)⟩⟩

theorem wpl_guard {draw : Bool} {base : Nat} {ops : Array Oper} {o : Oper} {r : List Oper} {m : Nat} {log : List Foot} {s : St} {K : List Foot → St → Prop} (h : wpl Ω E draw base ops (o :: r) m log s K) :
    (guardOf ops s.sl o = some true ∧ opR Ω E draw (ev s.sl) s.h o.op (base + m) fun out => wpl Ω E draw base ops r (m + 1) (⟨m, out.upd.map Prod.fst ++ out.rd, out.upd.map Prod.fst⟩ :: log) (step s o.dst out) K) ∨
    (guardOf ops s.sl o = some false ∧ wpl Ω E draw base ops r (m + 1) (⟨m, [], []⟩ :: log) (step s o.dst { v := .tup [] }) K) := by
  unfold wpl at h
  simp only [BrG_eq] at h
  unfold guardOf
  split at h
  · rename_i hg
    rw [hg]; exact .inl ⟨rfl, h⟩
  · rename_i j want hg
    rw [hg]
    simp only
    split at h
    · rename_i t ht
      rw [ht]
      simp only
      split at h
      · rename_i x hx
        rw [hx]
        simp only
        by_cases c : x = want
        · rw [if_pos c] at h
          exact .inl ⟨by simp [c], h⟩
        · rw [if_neg c] at h
          exact .inr ⟨by simp [c], h⟩
      · rename_i hx
        rw [hx]
        exact .inr ⟨rfl, h⟩
      · exact h.elim
    · exact h.elim

/-- a region in the order of the text -/
theorem wpl_sound (ok : EnvOk P E) {base : Nat} {ops : Array Oper} (hd : ∀ (i : Nat) (o : Oper) (t : Tmp), ops[i]? = some o → o.dst = some t → t < n) {Q : Exit → Act → World → Prop} :
    ∀ (r : List Oper) (m : Nat), (∀ j : Nat, r[j]? = ops[m + j]?) → ∀ (log : List Foot) (s : St) (a : Act) (w : World) (K : List Foot → St → Prop), wpl Ω E false base ops r m log s K → Sim B n s a w →
      (∀ log s' a' w', K log s' → Sim B n s' a' w' → Q .normal a' w') → wpOps P ops Q (List.range' m r.length) a w
  | [], m, _, log, s, a, w, K, h, S, hQ => hQ log s a w h S
  | o :: r, m, hr, log, s, a, w, K, h, S, hQ => by
    have h0 : ops[m]? = some o := by simpa using (hr 0).symm
    have hr' : ∀ j : Nat, r[j]? = ops[m + 1 + j]? := fun j => by have := hr (j + 1); simpa [Nat.add_assoc, Nat.add_comm 1 j] using this
    simp only [List.length_cons, List.range'_succ, wpOps, h0]
    have hg : ∀ b, guardOf ops s.sl o = some b → Region.wanted o (yielded ops a.tmps) = b := fun b hb => by
      obtain ⟨ι, imm, e, I, h1, h2, h3⟩ := S
      exact guard_rep h3 hb
    rcases wpl_guard h with ⟨g, hop⟩ | ⟨g, hskip⟩
    · rw [hg _ g]
      simp only [if_true]
      exact .inl (oper_sound ok S hop (fun t ht => hd m o t h0 ht) fun out a' w' hk S' => wpl_sound ok hd r (m + 1) hr' _ _ a' w' K hk S' hQ)
    · rw [hg _ g]
      simp only [Bool.false_eq_true, if_false]
      exact wpl_sound ok hd r (m + 1) hr' _ _ _ _ K hskip (skip_sound S fun t ht => hd m o t h0 ht) hQ

end
end Go.K
end
