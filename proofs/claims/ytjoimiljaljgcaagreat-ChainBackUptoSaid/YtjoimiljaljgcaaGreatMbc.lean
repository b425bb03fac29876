/-
  Parts of the proof, joined by a program of this work: KOps7, KOps8, KOps9, KCall.
-/
import Derived.Test.YtjoimiljaljgcaaGreatMbb
import Derived.Laws.IdiomCopy
import Derived.Laws.CopyRow
set_option linter.unusedSectionVars false
set_option linter.unusedSimpArgs false
set_option linter.unusedVariables false
section
namespace Go.K
open Go
section
variable {ι : Nat → Option Value} {imm : Nat → Prop} {h : Heap} {w : World} {K : Out → Prop}
variable {P : Program} {E : Env} {draw : Bool} {ev : Operand → V} {ρ : Operand → Value} {o : Oper} {id : Nat}
theorem split_ix {k n size : Nat} (hs : 0 < size) (h : k < n * size) : k / size < n ∧ k % size < size ∧ (k / size) * size + k % size = k :=
 ⟨(Nat.div_lt_iff_lt_mul hs).2 h, Nat.mod_lt _ hs, by rw [Nat.mul_comm]; exact Nat.div_add_mod k size⟩
theorem src_cells {ys : List D} {a : Option Addr} {n c size : Nat} (hr : RepC imm w (.sl ys) (.slice a n c)) (hu : ∀ u, u ∈ ys → u.cells.length = size) (hs : 0 < size) (hne : ys ≠ []) :
  ∃ (ad : Addr) (news : List Value), a = some ad ∧ n = ys.length ∧ news.length = ys.length * size ∧ (∀ j v, news[j]? = some v → w.cell? (ad.add j) = some v) ∧ (∀ u, u ∈ news → u.oneCell' = true) ∧
   ∀ i j, i < ys.length → j < size → RepC imm w ((ys.getD i .np).cells.getD j .np) (news.getD (i * size + j) undef) := by
 cases hr with
 | sl0 => exact absurd rfl hne
 | sl _ g off cap sz cs T fr _ hi hg hc hs' hb hr =>
  have hsz : sz = size := by
   cases ys with
   | nil => exact absurd rfl hne
   | cons a r => exact (hs' a (by simp)).symm.trans (hu a (by simp))
  subst hsz
  refine ⟨⟨g, off, none⟩, (List.range (ys.length * sz)).map fun k => cs.getD (off + k) undef, rfl, rfl, by simp, ?_, ?_, ?_⟩
  ·intro j v hj
   have hlt : j < ys.length * sz := by
    have := (List.getElem?_eq_some_iff.1 hj).1; simpa using this
   obtain ⟨a1, a2, a3⟩ := split_ix hs hlt
   have hb' := hb _ _ a1 a2
   rw [a3] at hb'
   rw [addr_add]
   simp only [List.getElem?_map, List.getElem?_range hlt, Option.map_some, Option.some.injEq] at hj
   subst hj
   simp [World.cell?, hg, Array.getD, hb']
  ·intro u hm
   simp only [List.mem_map, List.mem_range] at hm
   obtain ⟨k, hk, rfl⟩ := hm
   obtain ⟨a1, a2, a3⟩ := split_ix hs hk
   have := (hr _ _ a1 a2).one
   rw [a3] at this
   exact this
  ·intro i j hi' hj
   have hk : i * sz + j < ys.length * sz := by
    have := Nat.mul_le_mul_right sz (Nat.succ_le_of_lt hi'); rw [Nat.succ_mul] at this; omega
   have e : ((List.range (ys.length * sz)).map fun k => cs.getD (off + k) undef).getD (i * sz + j) undef = cs.getD (off + (i * sz + j)) undef := by
    rw [List.getD_eq_getElem?_getD, List.getElem?_map, List.getElem?_range hk]; rfl
   rw [e]
   exact hr i j hi' hj
theorem cells_append {xs ys : List D} {cx cy : List Value} {size : Nat} (hx : cx.length = xs.length * size)
  (h1 : ∀ i j, i < xs.length → j < size → RepC imm w ((xs.getD i .np).cells.getD j .np) (cx.getD (i * size + j) undef))
  (h2 : ∀ i j, i < ys.length → j < size → RepC imm w ((ys.getD i .np).cells.getD j .np) (cy.getD (i * size + j) undef)) :
  ∀ i j, i < (xs ++ ys).length → j < size → RepC imm w (((xs ++ ys).getD i .np).cells.getD j .np) ((cx ++ cy).getD (i * size + j) undef) := by
 intro i j hi hj
 by_cases c : i < xs.length
 ·have e1 : (xs ++ ys).getD i .np = xs.getD i .np := by simp [List.getD, List.getElem?_append, c]
  have hk : i * size + j < cx.length := by
   have := Nat.mul_le_mul_right size (Nat.succ_le_of_lt c); rw [Nat.succ_mul] at this; omega
  have e2 : (cx ++ cy).getD (i * size + j) undef = cx.getD (i * size + j) undef := by simp [List.getD, List.getElem?_append, hk]
  rw [e1, e2]; exact h1 i j c hj
 ·have hi' : i - xs.length < ys.length := by simp at hi; omega
  have e1 : (xs ++ ys).getD i .np = ys.getD (i - xs.length) .np := by simp [List.getD, List.getElem?_append, c]
  have hm : i * size = xs.length * size + (i - xs.length) * size := by rw [← Nat.add_mul]; congr 1; omega
  have hk : ¬ i * size + j < cx.length := by rw [hx, hm]; omega
  have e2 : (cx ++ cy).getD (i * size + j) undef = cy.getD ((i - xs.length) * size + j) undef := by
   have : i * size + j - cx.length = (i - xs.length) * size + j := by rw [hx, hm]; omega
   simp [List.getD, List.getElem?_append, hk, this]
  rw [e1, e2]; exact h2 _ j hi' hj
theorem run_append_nothing {T ty e : TypeId} {info : TypeInfo} (hu : P.underlying T = some (.slice e)) (hi : P.info? e = some info) (base b : Option Addr) (n cap c : Nat) (hc : n ≤ cap) :
  (Builtin.append_ #[T, T] ty #[.slice base n cap, .slice b 0 c]).run P w = .ok (.slice base n cap) w := by
 have hf : (Builtin.firstCells info.size 0 (.slice b 0 c)).run P w = .ok #[] w := by
  cases b with
  | none => simp [Builtin.firstCells]
  | some b => simp [Builtin.firstCells, loadCells, loadCellsFrom]
 cases base with
 | none => simp [Builtin.append_, run_underlying hu, sizeOf, typeInfo, hi, Builtin.lenOf, hc, hf]
 | some a => simp [Builtin.append_, run_underlying hu, sizeOf, typeInfo, hi, Builtin.lenOf, hc, hf, storeCells]
theorem row_copy {xs zs : List D} {cur cs : List Value} {off : Nat} (hf : off + zs.length ≤ xs.length) (hcs : xs.length ≤ cur.length) (hl : cs.length = zs.length)
  (hx : ∀ i, i < xs.length → RepC imm w ((xs.getD i .np).cells.getD 0 .np) (cur.getD i undef))
  (hz : ∀ i, i < zs.length → RepC imm w ((zs.getD i .np).cells.getD 0 .np) (cs.getD i undef)) :
  ∀ i, i < xs.length → RepC imm w (((xs.take off ++ zs ++ xs.drop (off + zs.length)).getD i .np).cells.getD 0 .np) ((cur.take off ++ cs ++ cur.drop (off + zs.length)).getD i undef) := by
 intro i hi
 have l1 : (xs.take off).length = off := by rw [List.length_take]; omega
 have l2 : (cur.take off).length = off := by rw [List.length_take]; omega
 have h1 := hx i hi
 have ea : (xs.take off ++ zs ++ xs.drop (off + zs.length)).getD i .np = if i < off then xs.getD i .np else if i < off + zs.length then zs.getD (i - off) .np else xs.getD i .np := by
  simp only [List.getD_eq_getElem?_getD, List.getElem?_append, l1, List.length_append, List.getElem?_take, List.getElem?_drop]
  by_cases a : i < off
  ·have : i < off + zs.length := by omega
   simp [a, this]
  ·by_cases b : i < off + zs.length
   ·simp [a, b]
   ·have e : off + zs.length + (i - (off + zs.length)) = i := by omega
    simp [a, b, e]
 have eb : (cur.take off ++ cs ++ cur.drop (off + zs.length)).getD i undef = if i < off then cur.getD i undef else if i < off + zs.length then cs.getD (i - off) undef else cur.getD i undef := by
  simp only [List.getD_eq_getElem?_getD, List.getElem?_append, l2, List.length_append, hl, List.getElem?_take, List.getElem?_drop]
  by_cases a : i < off
  ·have : i < off + zs.length := by omega
   simp [a, this]
  ·by_cases b : i < off + zs.length
   ·simp [a, b]
   ·have e : off + zs.length + (i - (off + zs.length)) = i := by omega
    simp [a, b, e]
 rw [ea, eb]
 by_cases a : i < off
 ·rw [if_pos a, if_pos a]; exact h1
 ·rw [if_neg a, if_neg a]
  by_cases b : i < off + zs.length
  ·rw [if_pos b, if_pos b]; exact hz _ (by omega)
  ·rw [if_neg b, if_neg b]; exact h1
variable (I : Inv ι imm h w) (tt : TTok P E.tt) (he : ∀ x, RepV ι imm w (ev x) (ρ x))
include I tt he
theorem op_append {args : Array Operand} {ts : Array TypeId} (ho : o.op = .call { callee := .builtin .append, args := args, argTypes := ts }) (hK : opR Ω E draw ev h o.op id K) : Done ι imm h w K ((execOp ρ o).run P w) := by
 rw [ho] at hK
 simp only [opR, w_slen, w_sget, w_ssub, w_sset, w_srep, w_scat, BrG_eq, DK_eq, w_ci, w_iand, w_ior, w_ixor, w_ishl, w_ishr, w_wrap, w_tmod, w_lt, w_le, w_eq, w_ne, w_ile, w_ilt, w_tn, w_nadd, w_nsub, w_nlt, w_leb, w_room, w_imax, w_imin, w_bget, w_bext, w_bcat, w_bsz, w_beqs] at hK
 split at hK
 ·rename_i hb _ _; cases hb
 ·rename_i x y T U _ ha hts
  obtain ⟨a, b, rfl, rfl, rfl⟩ := args_two ha
  obtain rfl := types_two hts
  have h1 := he a
  have h1b := he b
  split at hK
  ·rename_i s1 s2 s3 e ht
   have hT := tt _ _ ht
   split at hK
   ·rename_i size bytes z und hte
    have hE := tt _ _ hte
    obtain ⟨rfl, hzl, hpos, hK⟩ := hK
    split at hK
    ·rename_i ys hy
     obtain ⟨hid, huy, hK⟩ := hK
     obtain ⟨info, i1, i2, i3, i4⟩ := hE.ok
     have hzs := (hE.zero z rfl).1
     have hsz : info.size = size := i2
     have hby : info.bytes = bytes := i3
     obtain ⟨imm1, I1, E1⟩ := Inv.freezeL (idsOf (ev b)) I
     have hrep := toD_rep I1 (fun i hi l e z xs hx => freezeL_done h _ i hi l e z xs hx) (h1b.evo I E1) hy
     have hbv : ∃ ba c, ρ b = .slice ba ys.length c ∧ RepC imm1 w (.sl ys) (.slice ba ys.length c) := by
      have hrep' : RepV ι imm1 w (.d (.sl ys)) (ρ b) := hrep
      obtain ⟨ba, c, q1, q2⟩ := repSl hrep'
      exact ⟨ba, c, q1, q2⟩
     obtain ⟨ba, c, hb1, hb2⟩ := hbv
     have hid1 : ups h (freezeL h (idsOf (ev b))) id = none := by
      rcases freezeL_same h (idsOf (ev b)) id with q | ⟨l', e', z', xs', q1, q2⟩
      ·exact q.trans hid
      ·rw [hid] at q1; cases q1
     have fin : ∀ v, (Builtin.append_ #[T, T] o.type #[ρ a, ρ b]).run P w = .ok v w → (execOp ρ o).run P w = .ok (.value v) w := fun v hr => by
      simp [execOp, ho, resolve, invoke, builtin, hr]
     have fin' : ∀ v w', (Builtin.append_ #[T, T] o.type #[ρ a, ρ b]).run P w = .ok v w' → (execOp ρ o).run P w = .ok (.value v) w' := fun v w' hr => by
      simp [execOp, ho, resolve, invoke, builtin, hr]
     split at hK
     ·-- onto nil
      rename_i hx
      rw [hx] at h1
      have h2 : ρ a = .slice none 0 0 := h1
      obtain ⟨⟨hbytes, hlen⟩, hK⟩ := hK
      have hbytes' := hbytes
      by_cases hne : ys = []
      ·subst hne
       have hr := run_append_nothing (w := w) (ty := o.type) hT.und i1 none ba 0 0 c (Nat.le_refl _)
       have st := I1.fresh hid1 (.slice none 0 0) (.row true e size []) (w' := w) (Nat.le_refl _) (fun _ _ => rfl) rfl rfl rfl (fun g hg => by cases hg)
        ⟨[], rowOwn_nil w 0 e size, fun _ q => absurd q List.not_mem_nil, fun _ _ q => absurd q (Nat.not_lt_zero _)⟩
       refine ⟨_, _, _, _, imm1, .inl (fin _ (by rw [h2, hb1]; exact hr)), hK, E1.trans st.2, st.1, ⟨upd_same _ _ _, .inl rfl⟩⟩
      ·obtain ⟨ad, news, rfl, _, hnl, hnews, hone, hcell⟩ := src_cells hb2 huy hpos hne
       have hpl : 0 < ys.length := List.length_pos_iff.2 hne
       have hr := run_append_nil (P := P) w T o.type e info z hT.und i1 i4 ad ys.length c news (by rw [hsz]; exact hnl) hnews hpl (by omega) (by rw [hby]; omega)
       have hgc := grownCap_ge w ys.length 0 e
       have hgm : grownCap w ys.length 0 e ≤ maxLen := grownCap_le_maxLen w _ _ e (by simp only [maxLen]; omega)
       have st := I1.fresh hid1 (.slice (some ⟨w.heap.size, 0, none⟩) ys.length (grownCap w ys.length 0 e)) (.row true e size ys)
        (w' := w.drew.alloc (.cells (news.toArray ++ Builtin.zeroCells z.cells (grownCap w ys.length 0 e - ys.length)) e)) (by simp)
        (fun g hg => heap_alloc_old w.drew _ g hg) rfl rfl rfl (fun g hg => by cases hg; exact Nat.le_refl _) ?_
       ·exact ⟨_, _, _, _, imm1, .inl (fin' _ _ (by rw [h2, hb1]; exact hr)), hK, E1.trans st.2, st.1, ⟨upd_same _ _ _, .inr ⟨_, _, _, rfl⟩⟩⟩
       ·refine ⟨news, ⟨hnl, .inr ⟨w.heap.size, _, _, rfl, Nat.zero_le _, heap_alloc_new w.drew _, hgc, hgm, ?_, ?_⟩⟩, huy, fun i j hi hj => RepC.mono (w := w) (fun g hg => ⟨hg, heap_alloc_old w.drew _ g (I1.lt g hg)⟩) (hcell i j hi hj)⟩
        ·refine Nat.le_of_eq (Eq.symm ?_)
         rw [Array.size_append, List.size_toArray, size_zeroCells, hnl, hzs, ← Nat.add_mul]
         congr 1; omega
        ·rw [Array.toList_append, ← hnl]; exact List.take_left
     ·-- onto the call's own
      rename_i j sz hx
      rw [hx] at h1
      split at hK
      ·rename_i e' z' xs hj
       obtain ⟨rfl, rfl, ⟨hbytes, hlen⟩, hnj, hK⟩ := hK
       have hj1 : ups h (freezeL h (idsOf (ev b))) j = some (.row true e' z' xs) := (freezeL_other h _ j hnj).trans hj
       have h1' : RepV ι imm1 w (.own j sz) (ρ a) := h1.evo I E1
       obtain ⟨hιj, hblk, hform⟩ := own_form I1 hj1 h1'
       obtain ⟨cells, ho', hux, hcx⟩ := hblk
       have hinv : BlkRep ι imm1 w (.row true e' z' xs) (ρ a) := ⟨cells, ho', hux, hcx⟩
       rcases hform with ⟨h2, hxs⟩ | ⟨g, cap, h2, hcap⟩
       ·-- it was nil
        subst hxs
        simp only [List.nil_append] at hK
        have g1 := I1.giveUp hj1
        have hid2 : upd (ups h (freezeL h (idsOf (ev b)))) j (some Blk.dead) id = none := by
         rw [upd_other _ _ _ _ (fun q => by subst q; rw [hid1] at hj1; cases hj1)]; exact hid1
        by_cases hne : ys = []
        ·subst hne
         have hr := run_append_nothing (w := w) (ty := o.type) hT.und i1 none ba 0 0 c (Nat.le_refl _)
         have st := g1.1.fresh hid2 (.slice none 0 0) (.row true e' z' []) (w' := w) (Nat.le_refl _) (fun _ _ => rfl) rfl rfl rfl (fun g hg => by cases hg)
          ⟨[], rowOwn_nil w 0 e' z', fun _ q => absurd q List.not_mem_nil, fun _ _ q => absurd q (Nat.not_lt_zero _)⟩
         refine ⟨_, _, _, _, imm1, .inl (fin _ (by rw [h2, hb1]; exact hr)), hK, E1.trans (g1.2.trans st.2), st.1, ⟨upd_same _ _ _, .inl rfl⟩⟩
        ·obtain ⟨ad, news, rfl, _, hnl, hnews, hone, hcell⟩ := src_cells hb2 huy hpos hne
         have hpl : 0 < ys.length := List.length_pos_iff.2 hne
         have hr := run_append_nil (P := P) w T o.type e' info z hT.und i1 i4 ad ys.length c news (by rw [hsz]; exact hnl) hnews hpl (by simp at hlen; omega) (by rw [hby]; simp at hbytes; omega)
         have hgc := grownCap_ge w ys.length 0 e'
         have hgm : grownCap w ys.length 0 e' ≤ maxLen := grownCap_le_maxLen w _ _ e' (by simp only [maxLen]; simp at hlen; omega)
         have st := g1.1.fresh hid2 (.slice (some ⟨w.heap.size, 0, none⟩) ys.length (grownCap w ys.length 0 e')) (.row true e' z' ys)
          (w' := w.drew.alloc (.cells (news.toArray ++ Builtin.zeroCells z.cells (grownCap w ys.length 0 e' - ys.length)) e')) (by simp)
          (fun g hg => heap_alloc_old w.drew _ g hg) rfl rfl rfl (fun g hg => by cases hg; exact Nat.le_refl _) ?_
         ·exact ⟨_, _, _, _, imm1, .inl (fin' _ _ (by rw [h2, hb1]; exact hr)), hK, E1.trans (g1.2.trans st.2), st.1, ⟨upd_same _ _ _, .inr ⟨_, _, _, rfl⟩⟩⟩
         ·refine ⟨news, ⟨hnl, .inr ⟨w.heap.size, _, _, rfl, Nat.zero_le _, heap_alloc_new w.drew _, hgc, hgm, ?_, ?_⟩⟩, huy, fun i j hi hj => RepC.mono (w := w) (fun g hg => ⟨hg, heap_alloc_old w.drew _ g (I1.lt g hg)⟩) (hcell i j hi hj)⟩
          ·refine Nat.le_of_eq (Eq.symm ?_)
           rw [Array.size_append, List.size_toArray, size_zeroCells, hnl, hzs, ← Nat.add_mul]
           congr 1; omega
          ·rw [Array.toList_append, ← hnl]; exact List.take_left
       ·rw [h2] at hιj ho'
        have hhere : ∃ cur, w.heap[g]? = some (.cells cur e' (0, 0)) ∧ cap ≤ maxLen ∧ cap * z' ≤ cur.size ∧ cur.toList.take (xs.length * z') = cells := by
         rcases ho'.2 with ⟨q, _⟩ | ⟨g', cap', cur, q, _, q2, _, q4, q5, q6⟩
         ·cases q
         ·cases q; exact ⟨cur, q2, q4, q5, q6⟩
        obtain ⟨cur, hg, hcm, hcs, htake⟩ := hhere
        have hcl : cells.length = xs.length * z' := ho'.1
        have hux' : ∀ u, u ∈ xs ++ ys → u.cells.length = z' := fun u hu => by
         rcases List.mem_append.1 hu with q | q
         ·exact hux u q
         ·exact huy u q
        have hsrc : ∃ (ad : Addr) (news : List Value), (ys ≠ [] → ba = some ad) ∧ news.length = ys.length * z' ∧ (∀ j v, news[j]? = some v → w.cell? (ad.add j) = some v) ∧ (∀ u, u ∈ news → u.oneCell' = true) ∧
          ∀ i j, i < ys.length → j < z' → RepC imm1 w ((ys.getD i .np).cells.getD j .np) (news.getD (i * z' + j) undef) := by
         by_cases hne : ys = []
         ·subst hne
          exact ⟨⟨0, 0, none⟩, [], fun q => absurd rfl q, by simp, fun j v q => by simp at q, fun _ q => absurd q List.not_mem_nil, fun _ _ q => absurd q (Nat.not_lt_zero _)⟩
         ·obtain ⟨ad, news, q1, _, q3, q4, q5, q6⟩ := src_cells hb2 huy hpos hne
          exact ⟨ad, news, fun _ => q1, q3, q4, q5, q6⟩
        obtain ⟨ad, news, hba, hnl, hnews, hone, hcell⟩ := hsrc
        have hall := cells_append (w := w) (imm := imm1) hcl hcx hcell
        by_cases hroom : xs.length + ys.length ≤ cap
        ·-- there is room
         have hfit : xs.length * z' + news.length ≤ cur.size := by rw [hnl, ← Nat.add_mul]; exact Nat.le_trans (Nat.mul_le_mul_right _ hroom) hcs
         have hr : (Builtin.append_ #[T, T] o.type #[.slice (some ⟨g, 0, none⟩) xs.length cap, .slice ba ys.length c]).run P w =
           .ok (.slice (some ⟨g, 0, none⟩) (xs.length + ys.length) cap) (w.setRow g (cur.toList.take (xs.length * z') ++ news ++ cur.toList.drop (xs.length * z' + news.length)).toArray) := by
          by_cases hne : ys = []
          ·subst hne
           have hn0 : news = [] := List.eq_nil_of_length_eq_zero (by simpa using hnl)
           subst hn0
           rw [List.length_nil, run_append_nothing (w := w) hT.und i1 _ ba _ cap c hcap]
           simp only [List.append_nil, List.length_nil, Nat.add_zero, List.take_append_drop, Array.toArray_toList]
           rw [setRow_self w g cur e' (0, 0) hg]
          ·rw [hba hne]
           have := run_append_room (P := P) w T o.type e' info hT.und i1 g xs.length cap cur hg ad ys.length c news (by rw [hsz]; exact hnl) hnews hone hroom (by rw [hsz]; exact hfit)
           rw [hsz] at this
           exact this
         have hmono : ∀ g', imm1 g' → imm1 g' ∧ (w.setRow g (cur.toList.take (xs.length * z') ++ news ++ cur.toList.drop (xs.length * z' + news.length)).toArray).heap[g']? = w.heap[g']? := fun g' hg' =>
          ⟨hg', setRow_other w g g' _ (fun q => by subst q; exact I1.own g' ⟨j, _, _, hj1, rfl, hιj, rfl⟩ hg')⟩
         have st := I1.moved hj1 rfl hιj rfl hid1 (v := .slice (some ⟨g, 0, none⟩) (xs.length + ys.length) cap) (B := .row true e' z' (xs ++ ys))
          (w' := w.setRow g (cur.toList.take (xs.length * z') ++ news ++ cur.toList.drop (xs.length * z' + news.length)).toArray) (by simp)
          (fun k _ hk => setRow_other w g k _ (fun q => by subst q; exact hk rfl)) rfl rfl rfl rfl ?_
         ·exact ⟨_, _, _, _, imm1, .inl (fin' _ _ (by rw [h2, hb1]; exact hr)), hK, E1.trans st.2, st.1, ⟨upd_same _ _ _, .inr ⟨_, _, _, rfl⟩⟩⟩
         ·refine ⟨cells ++ news, ⟨?_, .inr ⟨g, cap, _, ?_, Nat.zero_le _, setRow_heap w g cur _ e' _ hg, ?_, hcm, ?_, ?_⟩⟩, hux', fun i k hi hk => (hall i k hi hk).mono hmono⟩
          ·rw [List.length_append, hcl, hnl, List.length_append, Nat.add_mul]
          ·rw [List.length_append]
          ·rw [List.length_append]; exact hroom
          ·simp only [List.size_toArray, List.length_append, List.length_take, List.length_drop, Array.length_toList]; omega
          ·rw [htake, List.length_append, Nat.add_mul, ← hcl, ← hnl, ← List.length_append]
           exact List.take_left
        ·-- it grows
         have hne : ys ≠ [] := fun q => by subst q; simp at hroom; omega
         have holds : ∀ j v, cells[j]? = some v → w.cell? ((⟨g, 0, none⟩ : Addr).add j) = some v := fun k v q => by
          rw [addr_add, Nat.zero_add]
          rw [← htake, List.getElem?_take] at q
          split at q
          ·rw [cell_of_row w g k cur e' (0, 0) hg]; simpa using q
          ·cases q
         have hr := run_append_grow (P := P) w T o.type e' info z hT.und i1 i4 ⟨g, 0, none⟩ xs.length cap cells (by rw [hsz]; exact hcl) holds ad ys.length c news (by rw [hsz]; exact hnl) hnews (by omega) (by omega)
          (growslice_fits (by omega) (by rw [hby]; exact hbytes))
         have hgc := grownCap_ge w (xs.length + ys.length) cap e'
         have hgm : grownCap w (xs.length + ys.length) cap e' ≤ maxLen := grownCap_le_maxLen w _ _ e' (by simp only [maxLen]; omega)
         have g1 := I1.giveUp hj1
         have hid2 : upd (ups h (freezeL h (idsOf (ev b)))) j (some Blk.dead) id = none := by
          rw [upd_other _ _ _ _ (fun q => by subst q; rw [hid1] at hj1; cases hj1)]; exact hid1
         have st := g1.1.fresh hid2 (.slice (some ⟨w.heap.size, 0, none⟩) (xs.length + ys.length) (grownCap w (xs.length + ys.length) cap e')) (.row true e' z' (xs ++ ys))
          (w' := w.drew.alloc (.cells (cells.toArray ++ news.toArray ++ Builtin.zeroCells z.cells (grownCap w (xs.length + ys.length) cap e' - (xs.length + ys.length))) e')) (by simp)
          (fun g hg => heap_alloc_old w.drew _ g hg) rfl rfl rfl (fun g hg => by cases hg; exact Nat.le_refl _) ?_
         ·exact ⟨_, _, _, _, imm1, .inl (fin' _ _ (by rw [h2, hb1, hba hne]; exact hr)), hK, E1.trans (g1.2.trans st.2), st.1, ⟨upd_same _ _ _, .inr ⟨_, _, _, rfl⟩⟩⟩
         ·refine ⟨cells ++ news, ⟨?_, .inr ⟨w.heap.size, _, _, ?_, Nat.zero_le _, heap_alloc_new w.drew _, ?_, hgm, ?_, ?_⟩⟩, hux', fun i k hi hk => RepC.mono (w := w) (fun g hg => ⟨hg, heap_alloc_old w.drew _ g (I1.lt g hg)⟩) (hall i k hi hk)⟩
          ·rw [List.length_append, hcl, hnl, List.length_append, Nat.add_mul]
          ·rw [List.length_append]
          ·rw [List.length_append]; exact hgc
          ·refine Nat.le_of_eq (Eq.symm ?_)
           rw [Array.size_append, Array.size_append, List.size_toArray, List.size_toArray, size_zeroCells, hcl, hnl, hzs, ← Nat.add_mul]
           show _ * z' + _ * z' = _
           rw [← Nat.add_mul]
           congr 1; omega
          ·rw [Array.toList_append, Array.toList_append, List.length_append, Nat.add_mul, ← hcl, ← hnl, ← List.length_append]
           exact List.take_left
      ·exact hK.elim
     ·exact hK.elim
    ·exact hK.elim
   ·exact hK.elim
  ·exact hK.elim
 ·exact hK.elim
theorem op_copy {args : Array Operand} {ts : Array TypeId} (ho : o.op = .call { callee := .builtin .copy, args := args, argTypes := ts }) (hK : opR Ω E draw ev h o.op id K) : Done ι imm h w K ((execOp ρ o).run P w) := by
 rw [ho] at hK
 simp only [opR, w_slen, w_sget, w_ssub, w_sset, w_srep, w_scat, w_scpy, BrG_eq, DK_eq, w_ci, w_iand, w_ior, w_ixor, w_ishl, w_ishr, w_wrap, w_tmod, w_lt, w_le, w_eq, w_ne, w_ile, w_ilt, w_tn, w_nadd, w_nsub, w_nlt, w_leb, w_room, w_imax, w_imin, w_bget, w_bext, w_bcat, w_bsz, w_beqs] at hK
 obtain ⟨_, hK⟩ := hK
 split at hK
 ·rename_i j sz off len y T U ha hts
  obtain ⟨a, b, rfl, hx, rfl⟩ := args_two ha
  obtain rfl := types_two hts
  have h1 := he a
  have h1b := he b
  rw [hx] at h1
  split at hK
  ·rename_i s1 s2 s3 e e' z xs ys ht hj hy
   have hT := tt _ _ ht
   split at hK
   ·rename_i i hte
    have hE := tt _ _ hte
    obtain ⟨hi1, rfl, rfl, huy, hnj, hfit, hK⟩ := hK
    obtain ⟨info, i1, i2, i3, i4⟩ := hE.ok
    have hsz : (P.info? e).map (·.size) = some 1 := by rw [i1]; simp [i2, hi1]
    obtain ⟨imm1, I1, E1⟩ := Inv.freezeL (idsOf (ev b)) I
    have hrep := toD_rep I1 (fun i hi l e z xs hx => freezeL_done h _ i hi l e z xs hx) (h1b.evo I E1) hy
    obtain ⟨ba, c, hb1, hb2⟩ : ∃ ba c, ρ b = .slice ba ys.length c ∧ RepC imm1 w (.sl ys) (.slice ba ys.length c) := by
     have hrep' : RepV ι imm1 w (.d (.sl ys)) (ρ b) := hrep
     obtain ⟨ba, c, q1, q2⟩ := repSl hrep'
     exact ⟨ba, c, q1, q2⟩
    have fin' : ∀ v w', (Builtin.copy_ #[T, U] o.type #[ρ a, ρ b]).run P w = .ok v w' → (execOp ρ o).run P w = .ok (.value v) w' := fun v w' hr => by
     simp [execOp, ho, resolve, invoke, builtin, hr]
    have hj1 : ups h (freezeL h (idsOf (ev b))) j = some (.row true e' 1 xs) := (freezeL_other h _ j hnj).trans hj
    have hfit' : off + len ≤ xs.length := by simpa using hfit
    have hsl : (List.take len (List.drop 0 ys)).length = Nat.min len ys.length := by simp [Nat.min_def]
    have hmin : ((if (ys.length : Int) < (len : Int) then (ys.length : Int) else (len : Int)) : Int) = ((Nat.min ys.length len : Nat) : Int) := by
     simp only [Nat.min_def]; split <;> split <;> omega
    by_cases h0 : Nat.min ys.length len = 0
    ·-- nothing is copied
     have hz : (List.take len (List.drop 0 ys)).length = 0 := by rw [hsl]; simp only [Nat.min_def] at h0 ⊢; split <;> split at h0 <;> omega
     have hn := List.eq_nil_of_length_eq_zero hz
     have hnew : xs.take off ++ List.take len (List.drop 0 ys) ++ xs.drop (off + (List.take len (List.drop 0 ys)).length) = xs := by
      rw [hn]; simp
     rw [hnew] at hK
     have hself : upd (ups h (freezeL h (idsOf (ev b)))) j (some (.row true e' 1 xs)) = ups h (freezeL h (idsOf (ev b))) := by
      funext t; by_cases c : t = j
      ·subst c; rw [upd_same, hj1]
      ·rw [upd_other _ _ _ _ c]
     have hda : ∃ d cc, ρ a = .slice d len cc := by
      rcases h1 with ⟨g, n, cap, cc, _, q, _⟩ | ⟨_, q, base, q2⟩
      ·exact ⟨_, _, q⟩
      ·exact ⟨base, 0, by rw [q2, q]⟩
     obtain ⟨d, cc, hda⟩ := hda
     have hr := run_copy_none (P := P) w T U o.type e d ba len cc ys.length c hT.und hsz h0
     refine ⟨_, _, _, ι, imm1, .inl (fin' _ _ (by rw [hda, hb1]; exact hr)), hK, ?_, ?_, ?_⟩
     ·show Evo ι imm h w ι imm1 (upd (ups h (freezeL h (idsOf (ev b)))) j (some (.row true e' 1 xs))) w
      rw [hself]; exact E1
     ·show Inv ι imm1 (upd (ups h (freezeL h (idsOf (ev b)))) j (some (.row true e' 1 xs))) w
      rw [hself]; exact I1
     ·show RepC _ _ (.i .i64 (if (ys.length : Int) < (len : Int) then (ys.length : Int) else (len : Int))) (goInt 0)
      rw [hmin, h0]; exact .i _ _
    ·have hne : ys ≠ [] := fun q => by subst q; simp [Nat.min_def] at h0
     have hlen0 : len ≠ 0 := fun q => by subst q; simp [Nat.min_def] at h0
     rcases h1 with ⟨g, n, cap, cc, hιj, hda, hcc, hcap⟩ | ⟨_, q, _⟩
     rotate_left
     ·exact absurd q hlen0
     obtain ⟨ad, news, rfl, _, hnl, hnews, hone, hcell⟩ := src_cells hb2 huy (Nat.one_pos) hne
     obtain ⟨v', h4, cells, ho', h6, h7⟩ := I1.blk j _ hj1
     have h2' := E1.ids _ _ hιj
     rw [h2'] at h4; cases h4
     rcases ho'.2 with ⟨q, _⟩ | ⟨g', cap', cur, q, hb0, h8, h9, hcm, h10, h11⟩
     ·cases q
     cases q
     have hzl : (List.take len (List.drop 0 ys)).length ≤ ys.length := by rw [hsl]; exact Nat.min_le_right _ _
     have hnl' : news.length = ys.length := by rw [hnl, Nat.mul_one]
     have hcl : (news.take (List.take len (List.drop 0 ys)).length).length = (List.take len (List.drop 0 ys)).length := by rw [List.length_take]; omega
     have hzle : (List.take len (List.drop 0 ys)).length ≤ len := by rw [hsl]; exact Nat.min_le_left _ _
     have hcur : xs.length ≤ cur.size := by omega
     have hmm : (List.take len (List.drop 0 ys)).length = Nat.min ys.length len := by rw [hsl]; exact Nat.min_comm _ _
     have hr := run_copy_row P w T U o.type e g (off * 1) len cc ad ys.length c cur e' (news.take (List.take len (List.drop 0 ys)).length) hT.und hsz h8
      (by rw [hcl, hmm]) (fun k v q => hnews k v (by rw [List.getElem?_take] at q; split at q; exact q; cases q)) (by rw [hcl]; omega) (fun v q => hone v (List.mem_of_mem_take q))
     have hcx : ∀ i, i < xs.length → RepC imm1 w ((xs.getD i .np).cells.getD 0 .np) (cur.toList.getD i undef) := fun i hi => by
      have h := h7 i 0 hi (Nat.one_pos)
      have e2 : cells.getD (i * 1 + 0) undef = cur.toList.getD i undef := by
       rw [← h11]; simp [List.getD, hi]
      rw [← e2]; exact h
     have hcz : ∀ i, i < (List.take len (List.drop 0 ys)).length → RepC imm1 w (((List.take len (List.drop 0 ys)).getD i .np).cells.getD 0 .np) ((news.take (List.take len (List.drop 0 ys)).length).getD i undef) := fun i hi => by
      have h := hcell i 0 (by omega) (Nat.one_pos)
      have hi' : i < len := by omega
      have e1 : (List.take len (List.drop 0 ys)).getD i .np = ys.getD i .np := by simp [List.getD, hi']
      have e2 : (news.take (List.take len (List.drop 0 ys)).length).getD i undef = news.getD (i * 1 + 0) undef := by
       rw [List.getD_eq_getElem?_getD, List.getElem?_take, if_pos hi, List.getD_eq_getElem?_getD, Nat.mul_one, Nat.add_zero]
      rw [e1, e2]; exact h
     have hall := row_copy (w := w) (imm := imm1) (xs := xs) (zs := List.take len (List.drop 0 ys)) (cur := cur.toList) (off := off) (by omega) (by simpa using hcur) hcl hcx hcz
     rw [Nat.mul_one, hcl] at hr
     have hmono : ∀ g', imm1 g' → imm1 g' ∧ (w.setRow g (cur.toList.take off ++ news.take (List.take len (List.drop 0 ys)).length ++ cur.toList.drop (off + (List.take len (List.drop 0 ys)).length)).toArray).heap[g']? = w.heap[g']? := fun g' hg' =>
      ⟨hg', setRow_other w g g' _ (fun e'' => by subst e''; exact I1.own g' ⟨j, _, _, hj1, rfl, h2', rfl⟩ hg')⟩
     have hlen : (xs.take off ++ List.take len (List.drop 0 ys) ++ xs.drop (off + (List.take len (List.drop 0 ys)).length)).length = xs.length := by
      rw [List.length_append, List.length_append, List.length_drop, List.length_take]
      omega
     have st := I1.wrote hj1 rfl h2' (B := .row true e' 1 (xs.take off ++ List.take len (List.drop 0 ys) ++ xs.drop (off + (List.take len (List.drop 0 ys)).length)))
      (w' := w.setRow g (cur.toList.take off ++ news.take (List.take len (List.drop 0 ys)).length ++ cur.toList.drop (off + (List.take len (List.drop 0 ys)).length)).toArray) (by simp)
      (fun g' hg' => setRow_other w g g' _ (fun e'' => by subst e''; exact hg' rfl)) rfl rfl rfl ?_
     ·refine ⟨_, _, _, ι, imm1, .inl (fin' _ _ (by rw [hda, hb1, Nat.mul_one]; exact hr)), hK, E1.trans st.2, st.1, ?_⟩
      show RepC _ _ (.i .i64 (if (ys.length : Int) < (len : Int) then (ys.length : Int) else (len : Int))) (goInt _)
      rw [hmin, hmm]; exact .i _ _
     ·refine ⟨(cur.toList.take off ++ news.take (List.take len (List.drop 0 ys)).length ++ cur.toList.drop (off + (List.take len (List.drop 0 ys)).length)).take (xs.length * 1), ⟨?_, .inr ⟨g, cap, _, ?_, Nat.zero_le _, setRow_heap w g cur _ e' _ h8, ?_, hcm, ?_, ?_⟩⟩, ?_, ?_⟩
      ·have hcul : cur.toList.length = cur.size := Array.length_toList
       rw [hlen, List.length_take, List.length_append, List.length_append, List.length_drop, List.length_take, hcl]; omega
      ·rw [hlen]
      ·rw [hlen]; exact h9
      ·have hcul : cur.toList.length = cur.size := Array.length_toList
       rw [List.size_toArray, List.length_append, List.length_append, List.length_drop, List.length_take, hcl]; omega
      ·rw [hlen]
      ·intro x hx
       rcases List.mem_append.1 hx with hx | hx
       ·rcases List.mem_append.1 hx with hx | hx
        ·exact h6 x (List.mem_of_mem_take hx)
        ·exact huy x (List.mem_of_mem_drop (List.mem_of_mem_take hx))
       ·exact h6 x (List.mem_of_mem_drop hx)
      ·intro a b ha hb
       rw [hlen] at ha
       obtain rfl : b = 0 := by omega
       have := (hall a ha).mono hmono
       have e3 : ((cur.toList.take off ++ news.take (List.take len (List.drop 0 ys)).length ++ cur.toList.drop (off + (List.take len (List.drop 0 ys)).length)).take (xs.length * 1)).getD (a * 1 + 0) undef =
         (cur.toList.take off ++ news.take (List.take len (List.drop 0 ys)).length ++ cur.toList.drop (off + (List.take len (List.drop 0 ys)).length)).getD a undef := by
        rw [List.getD_eq_getElem?_getD, List.getElem?_take, if_pos (by omega), List.getD_eq_getElem?_getD, Nat.mul_one, Nat.add_zero]
       rw [e3]
       exact this
   ·exact hK.elim
  ·exact hK.elim
 ·exact hK.elim
end
end Go.K
end
section
namespace Go.K
open Go
theorem foldl_set_list (off : Nat) : ∀ (l : List Value) (k : Nat) (cs : Array Value),
  ((l.zipIdx k).foldl (fun cs (x : Value × Nat) => cs.setIfInBounds (off + x.2) x.1) cs).size = cs.size ∧
  ∀ m, ((l.zipIdx k).foldl (fun cs (x : Value × Nat) => cs.setIfInBounds (off + x.2) x.1) cs).getD m undef =
   if off + k ≤ m ∧ m < off + k + l.length ∧ m < cs.size then l.getD (m - (off + k)) undef else cs.getD m undef
 | [], k, cs => by
  refine ⟨rfl, fun m => ?_⟩
  rw [if_neg (by simp; omega)]
  rfl
 | a :: r, k, cs => by
  obtain ⟨h1, h2⟩ := foldl_set_list off r (k + 1) (cs.setIfInBounds (off + k) a)
  simp only [List.zipIdx_cons, List.foldl_cons]
  refine ⟨by rw [h1]; simp, fun m => ?_⟩
  rw [h2]
  have hs : (cs.setIfInBounds (off + k) a).size = cs.size := by simp
  rw [hs]
  by_cases c : off + (k + 1) ≤ m ∧ m < off + (k + 1) + r.length ∧ m < cs.size
  ·rw [if_pos c, if_pos ⟨by omega, by simp; omega, by omega⟩]
   have : m - (off + k) = (m - (off + (k + 1))) + 1 := by omega
   rw [this]; rfl
  ·rw [if_neg c]
   by_cases d : m = off + k ∧ m < cs.size
   ·obtain ⟨rfl, d⟩ := d
    rw [if_pos ⟨Nat.le_refl _, by simp, d⟩, Nat.sub_self]
    simp [Array.getD, d]
   ·rw [if_neg (by simp; omega)]
    simp only [Array.getD_eq_getD_getElem?, Array.getElem?_setIfInBounds]
    by_cases q : off + k = m
    ·subst q
     have : ¬ off + k < cs.size := fun x => d ⟨rfl, x⟩
     simp [this]
    ·simp [q]
theorem foldl_set (off : Nat) (vs : Array Value) (cs : Array Value) :
  (vs.zipIdx.foldl (fun cs (x : Value × Nat) => cs.setIfInBounds (off + x.2) x.1) cs).size = cs.size ∧
  ∀ m, (vs.zipIdx.foldl (fun cs (x : Value × Nat) => cs.setIfInBounds (off + x.2) x.1) cs).getD m undef =
   if off ≤ m ∧ m < off + vs.size ∧ m < cs.size then vs.getD (m - off) undef else cs.getD m undef := by
 have e : vs.zipIdx.foldl (fun cs (x : Value × Nat) => cs.setIfInBounds (off + x.2) x.1) cs = (vs.toList.zipIdx 0).foldl (fun cs (x : Value × Nat) => cs.setIfInBounds (off + x.2) x.1) cs := by
  rw [← Array.foldl_toList, Array.toList_zipIdx]
 obtain ⟨h1, h2⟩ := foldl_set_list off vs.toList 0 cs
 rw [e]
 refine ⟨h1, fun m => ?_⟩
 rw [h2]
 simp only [Nat.add_zero, Array.length_toList]
 have : vs.toList.getD (m - off) undef = vs.getD (m - off) undef := by simp [List.getD, Array.getD_eq_getD_getElem?]
 rw [this]
section
variable {ι : Nat → Option Value} {imm : Nat → Prop} {h : Heap} {w : World} {K : Out → Prop}
variable {P : Program} {E : Env} {draw : Bool} {ev : Operand → V} {ρ : Operand → Value} {o : Oper} {id : Nat}
theorem fill_rep (he : ∀ x, RepV ι imm w (ev x) (ρ x)) (place : Nat → Option (Nat × Nat)) : ∀ (ps : List (Nat × Operand)) (cv : List V) (cw : Array Value) (out : List V), cw.size = cv.length →
  (∀ j, j < cv.length → RepV1 ι imm w (cv.getD j .junk) (cw.getD j undef) ∧ (cw.getD j undef).oneCell' = true) → fillV place cv (ps.map fun p => (p.1, ev p.2)) = some out →
  ∃ cw', Instr.fill place cw (ps.map fun p => (p.1, ρ p.2)) = some cw' ∧ cw'.size = out.length ∧ ∀ j, j < out.length → RepV1 ι imm w (out.getD j .junk) (cw'.getD j undef) ∧ (cw'.getD j undef).oneCell' = true
 | [], cv, cw, out, hs, hc, ho => by
  cases ho
  exact ⟨cw, rfl, hs, hc⟩
 | (i, x) :: r, cv, cw, out, hs, hc, ho => by
  simp only [List.map_cons, fillV] at ho
  split at ho
  ·cases ho
  ·rename_i off size hp
   split at ho
   ·rename_i l hl
    split at ho
    ·rename_i hfit
     obtain ⟨c1, c2⟩ := cells_rep (he x) hl
     obtain ⟨f1, f2⟩ := foldl_set off (ρ x).cells cw
     have hlen : (cv.take off ++ l ++ cv.drop (off + l.length)).length = cv.length := by simp; omega
     have key := fill_rep he place r (cv.take off ++ l ++ cv.drop (off + l.length)) _ out (f1.trans (hs.trans hlen.symm)) (fun j hj => ?_) ho
     ·obtain ⟨cw', k1, k2⟩ := key
      refine ⟨cw', ?_, k2⟩
      simp only [List.map_cons, Instr.fill, hp]
      have hcond : ¬ ((decide ((ρ x).cells.size ≠ size) || decide (off + (ρ x).cells.size > cw.size)) = true) := by
       have e1 : (ρ x).cells.size = size := by omega
       have e2 : ¬ off + (ρ x).cells.size > cw.size := by omega
       simp [e1]; omega
      rw [if_neg hcond]
      exact k1
     ·rw [hlen] at hj
      rw [f2]
      have l1 : (cv.take off).length = off := by simp; omega
      have ea : (cv.take off ++ l ++ cv.drop (off + l.length)).getD j .junk = if j < off then cv.getD j .junk else if j < off + l.length then l.getD (j - off) .junk else cv.getD j .junk := by
       simp only [List.getD_eq_getElem?_getD, List.getElem?_append, l1, List.length_append, List.getElem?_take, List.getElem?_drop]
       by_cases a : j < off
       ·have : j < off + l.length := by omega
        simp [a, this]
       ·by_cases b : j < off + l.length
        ·simp [a, b]
        ·have e : off + l.length + (j - (off + l.length)) = j := by omega
         simp [a, b, e]
      rw [ea]
      by_cases a : j < off
      ·rw [if_pos a, if_neg (by omega)]; exact hc j hj
      ·rw [if_neg a]
       by_cases b : j < off + l.length
       ·rw [if_pos b, if_pos ⟨by omega, by omega, by omega⟩]; exact c2 (j - off) (by omega)
       ·rw [if_neg b, if_neg (by omega)]; exact hc j hj
    ·cases ho
   ·cases ho
variable (I : Inv ι imm h w) (tt : TTok P E.tt) (he : ∀ x, RepV ι imm w (ev x) (ρ x))
theorem places_ok (tt : TTok P E.tt) : ∀ (fs : List Field) (pl : List (Nat × Nat)), places E.tt fs = some pl → fs.mapM (fun f => (P.info? f.type).map fun i => (f.offset, i.size)) = some pl
 | [], pl, h => by cases h; rfl
 | f :: r, pl, h => by
  simp only [places] at h
  split at h
  ·rename_i i l hi hl
   cases h
   obtain ⟨info, h1, h2, _⟩ := (tt _ _ hi).ok
   have ih := places_ok tt r l hl
   simp [List.mapM_cons, h1, h2, ih]
  ·cases h
include I tt he
theorem op_build {T : TypeId} {parts : Array (Nat × Operand)} (ho : o.op = .build T parts) (hK : opR Ω E draw ev h o.op id K) : Done ι imm h w K ((execOp ρ o).run P w) := by
 rw [ho] at hK
 simp only [opR, w_slen, w_sget, w_ssub, w_sset, w_srep, w_scat, BrG_eq, DK_eq, w_ci, w_iand, w_ior, w_ixor, w_ishl, w_ishr, w_wrap, w_tmod, w_lt, w_le, w_eq, w_ne, w_ile, w_ilt, w_tn, w_nadd, w_nsub, w_nlt, w_leb, w_room, w_imax, w_imin, w_bget, w_bext, w_bcat, w_bsz, w_beqs] at hK
 have fin : ∀ cells : Array Value, P.built T (parts.toList.map fun p => (p.1, ρ p.2)) = some cells → (execOp ρ o).run P w = .ok (.value (.agg cells)) w := fun cells hb => by
  have := run_build (P := P) w T (parts.map fun (i, x) => (i, ρ x)) cells (by simpa using hb)
  simp only [execOp, ho, Sem.run_bind, this, Result.andThen_ok, Sem.run_pure]
 split at hK
 ·rename_i sz by' z fs ht
  have hT := tt _ _ ht
  split at hK
  ·rename_i pl l hpl hl
   split at hK
   ·rename_i cs hcs
    obtain ⟨c1, c2⟩ := cells_rep (constV_rep ι imm w z) hl
    obtain ⟨cw', k1, k2, k3⟩ := fill_rep he _ _ l z.cells cs c1 c2 hcs
    obtain ⟨info, i1, _, _, i4⟩ := hT.ok
    refine Done.val I (fin cw' ?_) hK (shape_rep k2 k3)
    have hu := hT.und
    simp only [Program.built, i1, hu, i4, places_ok tt _ _ hpl]
    have : (fun (x : Nat) => pl.toArray[x]?) = fun (i : Nat) => pl[i]? := by funext i; simp
    rw [this]
    exact k1
   ·exact hK.elim
  ·exact hK.elim
 ·rename_i sz by' z n e ht
  have hT := tt _ _ ht
  split at hK
  ·rename_i i l hi hl
   have hj := tt _ _ hi
   split at hK
   ·rename_i cs hcs
    obtain ⟨c1, c2⟩ := cells_rep (constV_rep ι imm w z) hl
    obtain ⟨cw', k1, k2, k3⟩ := fill_rep he _ _ l z.cells cs c1 c2 hcs
    obtain ⟨info, i1, _, _, i4⟩ := hT.ok
    obtain ⟨infoe, j1, j2, _, _⟩ := hj.ok
    refine Done.val I (fin cw' ?_) hK (shape_rep k2 k3)
    have hu := hT.und
    simp only [Program.built, i1, hu, i4, j1, j2]
    exact k1
   ·exact hK.elim
  ·exact hK.elim
 ·exact hK.elim
end
end Go.K
end
section
namespace Go.K
open Go
section
variable {ι : Nat → Option Value} {imm : Nat → Prop} {h : Heap} {w : World} {K : Out → Prop}
variable {P : Program} {E : Env} {draw : Bool} {ev : Operand → V} {ρ : Operand → Value} {o : Oper} {id : Nat}
theorem fill_dense {size : Nat} : ∀ (ps : List (Nat × Operand)) (xs : List D) (k : Nat) (cw : Array Value), ps.length = xs.length → (∀ i, i < ps.length → (ps.getD i (0, .const undef)).1 = k + i) →
  (∀ i, i < ps.length → RepD imm w (xs.getD i .np) (ρ (ps.getD i (0, .const undef)).2) ∧ (xs.getD i .np).cells.length = size) → (k + ps.length) * size ≤ cw.size →
  ∃ cw', Instr.fill (fun i => some (i * size, size)) cw (ps.map fun p => (p.1, ρ p.2)) = some cw' ∧ cw'.size = cw.size ∧ (∀ m, m < k * size → cw'.getD m undef = cw.getD m undef) ∧
   ∀ i j, i < xs.length → j < size → RepC imm w ((xs.getD i .np).cells.getD j .np) (cw'.getD ((k + i) * size + j) undef)
 | [], xs, k, cw, hl, _, _, _ => by
  have : xs = [] := List.eq_nil_of_length_eq_zero hl.symm
  subst this
  exact ⟨cw, rfl, rfl, fun _ _ => rfl, fun i j hi => absurd hi (Nat.not_lt_zero _)⟩
 | (i, x) :: r, [], k, cw, hl, _, _, _ => by cases hl
 | (i, x) :: r, y :: ys, k, cw, hl, hk, hr, hfit => by
  have hi : i = k := by simpa using hk 0 (by simp)
  subst hi
  obtain ⟨h1, h2⟩ := hr 0 (by simp)
  have h1' : RepD imm w y (ρ x) := h1
  have h2' : y.cells.length = size := h2
  obtain ⟨c1, c2⟩ := repD_cells h1'
  obtain ⟨f1, f2⟩ := foldl_set (i * size) (ρ x).cells cw
  have hmul : (i + 1) * size = i * size + size := by rw [Nat.add_mul, Nat.one_mul]
  have hfit' : (i + 1 + r.length) * size ≤ cw.size := by simpa [Nat.add_assoc, Nat.add_comm 1] using hfit
  have hge : (i + 1) * size ≤ cw.size := Nat.le_trans (Nat.mul_le_mul_right _ (by omega)) hfit'
  obtain ⟨cw', k1, k2, k3, k4⟩ := fill_dense r ys (i + 1) ((ρ x).cells.zipIdx.foldl (fun cs (x : Value × Nat) => cs.setIfInBounds (i * size + x.2) x.1) cw) (by simpa using hl)
   (fun j hj => by have := hk (j + 1) (by simpa using hj); simpa [Nat.add_assoc, Nat.add_comm 1] using this) (fun j hj => by simpa using hr (j + 1) (by simpa using hj)) (by rw [f1]; exact hfit')
  refine ⟨cw', ?_, k2.trans f1, fun m hm => ?_, fun a b ha hb => ?_⟩
  ·simp only [List.map_cons, Instr.fill]
   have hcond : ¬ ((decide ((ρ x).cells.size ≠ size) || decide (i * size + (ρ x).cells.size > cw.size)) = true) := by
    have e1 : (ρ x).cells.size = size := by omega
    have e2 : ¬ i * size + size > cw.size := by omega
    simp [e1]; omega
   rw [if_neg hcond]
   exact k1
  ·rw [k3 m (by omega), f2, if_neg (by omega)]
  ·cases a with
   | zero =>
    have hb' : b < y.cells.length := by omega
    rw [Nat.add_zero, k3 _ (by omega), f2, if_pos ⟨by omega, by omega, by omega⟩, show i * size + b - i * size = b by omega]
    exact c2 b hb'
   | succ a =>
    have := k4 a b (by simpa using ha) hb
    rw [show i + 1 + a = i + (a + 1) by omega] at this
    exact this
theorem partsD_ok : ∀ (ps : List (Nat × Operand)) (l : List (Nat × D)), partsD Ω h (ps.map fun p => (p.1, ev p.2)) = some l → l.length = ps.length ∧
  ∀ i, i < ps.length → (l.getD i (0, .np)).1 = (ps.getD i (0, .const undef)).1 ∧ toD Ω h (ev (ps.getD i (0, .const undef)).2) = some (l.getD i (0, .np)).2
 | [], l, hl => by cases hl; exact ⟨rfl, fun i hi => absurd hi (Nat.not_lt_zero _)⟩
 | (i, x) :: r, l, hl => by
  simp only [List.map_cons, partsD] at hl
  split at hl
  ·rename_i d l' hd hl'
   cases hl
   obtain ⟨h1, h2⟩ := partsD_ok r l' hl'
   refine ⟨by simp [h1], fun j hj => ?_⟩
   cases j with
   | zero => exact ⟨rfl, hd⟩
   | succ j => exact h2 j (by simpa using hj)
  ·cases hl
theorem dense_ok {size : Nat} : ∀ (l : List (Nat × D)) (k : Nat) (xs : List D), dense size k l = some xs → xs.length = l.length ∧
  ∀ i, i < l.length → (l.getD i (0, .np)).1 = k + i ∧ xs.getD i .np = (l.getD i (0, .np)).2 ∧ (xs.getD i .np).cells.length = size
 | [], k, xs, hx => by cases hx; exact ⟨rfl, fun i hi => absurd hi (Nat.not_lt_zero _)⟩
 | (i, x) :: r, k, xs, hx => by
  simp only [dense] at hx
  split at hx
  ·rename_i hc
   split at hx
   ·rename_i l hl
    cases hx
    obtain ⟨h1, h2⟩ := dense_ok r (k + 1) l hl
    refine ⟨by simp [h1], fun j hj => ?_⟩
    cases j with
    | zero => exact ⟨by simp [hc.1], rfl, hc.2⟩
    | succ j =>
     obtain ⟨a, b, c⟩ := h2 j (by simpa using hj)
     exact ⟨by rw [show k + (j + 1) = k + 1 + j by omega]; exact a, b, c⟩
   ·cases hx
  ·cases hx
variable (I : Inv ι imm h w) (tt : TTok P E.tt) (he : ∀ x, RepV ι imm w (ev x) (ρ x))
include I tt he
theorem op_buildSlice {T : TypeId} {len : Nat} {parts : Array (Nat × Operand)} (ho : o.op = .buildSlice T len parts) (hK : opR Ω E draw ev h o.op id K) : Done ι imm h w K ((execOp ρ o).run P w) := by
 rw [ho] at hK
 simp only [opR, w_slen, w_sget, w_ssub, w_sset, w_srep, w_scat, BrG_eq, DK_eq, w_ci, w_iand, w_ior, w_ixor, w_ishl, w_ishr, w_wrap, w_tmod, w_lt, w_le, w_eq, w_ne, w_ile, w_ilt, w_tn, w_nadd, w_nsub, w_nlt, w_leb, w_room, w_imax, w_imin, w_bget, w_bext, w_bcat, w_bsz, w_beqs] at hK
 split at hK
 ·rename_i s1 s2 s3 e ht
  have hT := tt _ _ ht
  split at hK
  ·rename_i i hi
   have hj := tt _ _ hi
   split at hK
   ·rename_i l hl
    split at hK
    ·rename_i xs hxs
     obtain ⟨hlen, hbig, hpos, hzero, hK⟩ := hK
     obtain ⟨z, hz⟩ := Option.isSome_iff_exists.1 hzero
     obtain ⟨p1, p2⟩ := partsD_ok _ _ hl
     obtain ⟨d1, d2⟩ := dense_ok _ _ _ hxs
     obtain ⟨imm1, I1, E1⟩ := Inv.freezeL ((parts.toList.map fun p => ev p.2).flatMap idsOf) I
     have hparts : ∀ k, k < parts.toList.length → RepD imm1 w (xs.getD k .np) (ρ (parts.toList.getD k (0, .const undef)).2) ∧ (xs.getD k .np).cells.length = i.size := fun k hk => by
      obtain ⟨a1, a2⟩ := p2 k hk
      obtain ⟨b1, b2, b3⟩ := d2 k (by omega)
      refine ⟨?_, b3⟩
      rw [b2]
      refine toD_rep I1 (fun j hj l e z xs hx => freezeL_done h _ j ?_ l e z xs hx) ((he _).evo I E1) a2
      refine List.mem_flatMap.2 ⟨ev (parts.toList.getD k (0, .const undef)).2, List.mem_map.2 ⟨parts.toList.getD k (0, .const undef), ?_, rfl⟩, hj⟩
      rw [List.getD_eq_getElem?_getD, List.getElem?_eq_getElem hk]
      exact List.getElem_mem hk
     have hpl : parts.toList.length = xs.length := by omega
     obtain ⟨cw', f1, f2, _, f4⟩ := fill_dense (size := i.size) parts.toList xs 0 ((Array.range (len * i.size)).map ((if len * i.size = 0 then #[] else z.cells)[· % (if len * i.size = 0 then #[] else z.cells).size]!)) hpl
      (fun k hk => by rw [← (p2 k hk).1, (d2 k (by omega)).1]) hparts (by simp; rw [show parts.size = len by simpa using hpl.trans hlen]; exact Nat.le_refl _)
     have hsize : cw'.size = len * i.size := by rw [f2]; simp
     have hr : (Instr.buildSlice T len (parts.map fun (i, x) => (i, ρ x))).run P w = .ok (.slice (some ⟨w.heap.size, 0, none⟩) len len) (w.alloc (.cells cw' e)) := by
      have hn : ¬ len * i.size > 2 ^ 24 := by omega
      have hmap : (parts.map fun (x : Nat × Operand) => match x with | (i, x) => (i, ρ x)).toList = parts.toList.map fun p => (p.1, ρ p.2) := by simp
      by_cases hq : len * i.size = 0
      ·simp only [if_pos hq] at f1
       simp only [Instr.buildSlice, Sem.run_bind, run_underlying hT.und, Result.andThen_ok, hj.run_size, if_neg hn, if_pos hq, hmap, f1, newRow, run_newObj, Sem.run_pure]
       rfl
      ·simp only [if_neg hq] at f1
       simp only [Instr.buildSlice, Sem.run_bind, run_underlying hT.und, Result.andThen_ok, hj.run_size, if_neg hn, if_neg hq, hj.run_zero hz, hmap, f1, newRow, run_newObj, Sem.run_pure]
       rfl
     have hexec : (execOp ρ o).run P w = .ok (.value (.slice (some ⟨w.heap.size, 0, none⟩) len len)) (w.alloc (.cells cw' e)) := by
      simp only [execOp, ho, Sem.run_bind, hr, Result.andThen_ok, Sem.run_pure]
     have hux : ∀ x, x ∈ xs → x.cells.length = i.size := fun x hx => by
      obtain ⟨k, hk, rfl⟩ := List.mem_iff_getElem.1 hx
      have := (d2 k (by omega)).2.2
      simpa [List.getD, hk] using this
     subst hlen
     cases hdr : (draw && !Nat.beq xs.length 0) with
     | true =>
      simp only [hdr, if_true] at hK
      have st := I1.newImm (.cells cw' e)
      refine ⟨_, _, _, ι, _, .inl hexec, hK, E1.trans st.2, st.1, ?_⟩
      show RepC _ _ (.sl xs) _
      by_cases hx : xs = []
      ·subst hx; exact .sl0 _ _
      ·refine .sl xs w.heap.size 0 xs.length i.size cw' e (0, 0) hx (.inr rfl) (heap_alloc_new w _) (Nat.le_refl _) hux (fun a b ha hb => ?_) fun a b ha hb => ?_
       ·have := Nat.mul_le_mul_right i.size (Nat.succ_le_of_lt ha); rw [Nat.succ_mul] at this; omega
       ·have := f4 a b ha hb
        rw [Nat.zero_add] at this ⊢
        exact RepC.mono (w := w) (fun g hg => ⟨.inl hg, heap_alloc_old w _ g (I1.lt g hg)⟩) this
     | false =>
      simp only [hdr, Bool.false_eq_true, if_false] at hK
      obtain ⟨hid, hK⟩ := hK
      have hid1 : ups h (freezeL h ((parts.toList.map fun p => ev p.2).flatMap idsOf)) id = none := by
       rcases freezeL_same h ((parts.toList.map fun p => ev p.2).flatMap idsOf) id with q | ⟨l', e', z', xs', q1, q2⟩
       ·exact q.trans hid
       ·rw [hid] at q1; cases q1
      have st := I1.fresh hid1 (.slice (some ⟨w.heap.size, 0, none⟩) xs.length xs.length) (.row true e i.size xs) (w' := w.alloc (.cells cw' e)) (by simp)
       (fun g hg => heap_alloc_old w _ g hg) rfl rfl rfl (fun g hg => by cases hg; exact Nat.le_refl _) ?_
      ·exact ⟨_, _, _, _, imm1, .inl hexec, hK, E1.trans st.2, st.1, ⟨upd_same _ _ _, .inr ⟨_, _, _, rfl⟩⟩⟩
      ·refine ⟨cw'.toList, ⟨by simp [hsize], .inr ⟨w.heap.size, _, cw', rfl, Nat.zero_le _, heap_alloc_new w _, Nat.le_refl _, ?_, Nat.le_of_eq hsize.symm, ?_⟩⟩, hux, fun a b ha hb => ?_⟩
       ·have : xs.length * 1 ≤ xs.length * i.size := Nat.mul_le_mul_left _ hpos
        simp only [maxLen]; omega
       ·rw [List.take_of_length_le]; simp [hsize]
       ·have := f4 a b ha hb
        rw [Nat.zero_add] at this
        have e2 : cw'.toList.getD (a * i.size + b) undef = cw'.getD (a * i.size + b) undef := by
         rw [List.getD_eq_getElem?_getD, Array.getElem?_toList, Array.getD_eq_getD_getElem?]
        rw [e2]
        exact RepC.mono (w := w) (fun g hg => ⟨hg, heap_alloc_old w _ g (I1.lt g hg)⟩) this
    ·exact hK.elim
   ·exact hK.elim
  ·exact hK.elim
 ·exact hK.elim
end
end Go.K
end
section
namespace Go.K
open Go
def Callable (P : Program) (f : FuncId) : Prop := ∃ fn, P.funcs[f]? = some fn ∧ (fn.name == "runtime.NumGoroutine") = false ∧ fn.body.isNone = false
def Good (P : Program) (f : FuncId) (args : List V) (bs : List Blk) (r : V) (bs' : List Blk) : Prop :=
 Callable P f ∧ ∀ (ι : Nat → Option Value) (imm : Nat → Prop) (w : World) (vs : Array Value), Inv ι imm (mkH bs) w → vs.size = args.length → (∀ j, j < args.length → RepV ι imm w (args.getD j .junk) (vs.getD j undef)) →
  Calls P f vs w fun e w' => ∃ v ι' imm', e = .returned v ∧ Evo ι imm (mkH bs) w ι' imm' (mkH bs') w' ∧ Inv ι' imm' (mkH bs') w' ∧ RepV ι' imm' w' r v
structure EnvOk (P : Program) (E : Env) : Prop where
 tt : TTok P E.tt
 C : ∀ g ds r, E.C g ds r → Good P g (ds.map V.d) [] r []
 C2 : ∀ g args bs r bs', E.C2 g args bs r bs' → Good P g args bs r bs'
def OpDone (P : Program) (ι : Nat → Option Value) (imm : Nat → Prop) (h : Heap) (w : World) (K : Out → Prop) (r : Result Next) : Prop :=
 Done ι imm h w K r ∨ ∃ g vs, r = .ok (.enter g vs) w ∧ Calls P g vs w fun e w' => ∃ v out ι' imm', e = .returned v ∧ K out ∧ Evo ι imm h w ι' imm' (ups h out.upd) w' ∧ Inv ι' imm' (ups h out.upd) w' ∧ RepV ι' imm' w' out.v v
section
variable {ι : Nat → Option Value} {imm : Nat → Prop} {h : Heap} {w : World} {K : Out → Prop}
variable {P : Program} {E : Env} {draw : Bool} {ev : Operand → V} {ρ : Operand → Value} {o : Oper} {id : Nat}
theorem renC_rep {ι' : Nat → Option Value} {f : Nat → Option Nat} (hf : ∀ i k v, f i = some k → ι i = some v → ι' k = some v) : ∀ (l l' : List (Option Nat)) , renC f l = some l' → l'.length = l.length ∧ ∀ j v, j < l.length → RepCap ι (l.getD j none) v → RepCap ι' (l'.getD j none) v
 | [], l', e => by cases e; exact ⟨rfl, fun j v hj => absurd hj (Nat.not_lt_zero _)⟩
 | none :: r, l', e => by
  simp only [renC] at e
  split at e
  ·rename_i l hl
   cases e
   obtain ⟨k1, k2⟩ := renC_rep hf r l hl
   refine ⟨by simp [k1], fun j v hj h => ?_⟩
   cases j with
   | zero => exact h
   | succ j => exact k2 j v (by simpa using hj) h
  ·cases e
 | some i :: r, l', e => by
  simp only [renC] at e
  split at e
  ·rename_i k l hk hl
   cases e
   obtain ⟨k1, k2⟩ := renC_rep hf r l hl
   refine ⟨by simp [k1], fun j v hj h => ?_⟩
   cases j with
   | zero =>
    obtain ⟨g, h1, h2⟩ := h
    exact ⟨g, hf _ _ _ hk h1, h2⟩
   | succ j => exact k2 j v (by simpa using hj) h
  ·cases e
theorem renC_reps {ι' : Nat → Option Value} {f : Nat → Option Nat} (hf : ∀ i k v, f i = some k → ι i = some v → ι' k = some v) {l l' : List (Option Nat)} {vs : Array Value} (e : renC f l = some l') (h : RepCaps ι l vs) : RepCaps ι' l' vs := by
 obtain ⟨k1, k2⟩ := renC_rep hf l l' e
 exact ⟨by rw [h.1, k1], fun j hj => k2 j _ (by omega) (h.2 j (by omega))⟩
theorem ren1_rep {ι' : Nat → Option Value} {f : Nat → Option Nat} (hf : ∀ i k v, f i = some k → ι i = some v → ι' k = some v) {x : V} {v : Value} (hr : RepV1 ι imm w x v) : RepV1 ι' imm w (ren1 f x) v := by
 cases x with
 | d x => exact hr
 | agg cs => exact hr.elim
 | tup cs => exact hr.elim
 | nil => exact hr
 | fn g => exact hr
 | clo g a b =>
  simp only [ren1]
  split
  ·rename_i a' b' ha hb
   obtain ⟨fs, vs, h1, h2, h3⟩ := hr
   exact ⟨fs, vs, h1, renC_reps hf ha h2, renC_reps hf hb h3⟩
  ·trivial
 | junk => trivial
 | ip x off => exact hr
 | ptr i off =>
  simp only [ren1]
  split
  ·rename_i k hk
   obtain ⟨g, h1, h2⟩ := hr
   exact ⟨g, hf _ _ _ hk h1, h2⟩
  ·trivial
 | ept i sz l off =>
  simp only [ren1]
  split
  ·rename_i k hk
   obtain ⟨g, n, cap, h1, h2⟩ := hr
   exact ⟨g, n, cap, hf _ _ _ hk h1, h2⟩
  ·trivial
 | own i sz =>
  simp only [ren1]
  split
  ·rename_i k hk
   exact ⟨hf _ _ _ hk hr.1, hr.2⟩
  ·trivial
 | ref i sz off len =>
  simp only [ren1]
  split
  ·rename_i k hk
   rcases hr with ⟨g, n, cap, c, h1, h2⟩ | ⟨⟨u, h1⟩, h2⟩
   ·exact .inl ⟨g, n, cap, c, hf _ _ _ hk h1, h2⟩
   ·exact .inr ⟨⟨u, hf _ _ _ hk h1⟩, h2⟩
  ·trivial
theorem getD_map_ren1 (f : Nat → Option Nat) (cs : List V) (j : Nat) : (cs.map (ren1 f)).getD j .junk = ren1 f (cs.getD j .junk) := by
 simp only [List.getD_eq_getElem?_getD, List.getElem?_map]
 cases cs[j]? <;> rfl
theorem getD_map_ren0 (f : Nat → Option Nat) (cs : List V) (j : Nat) : (cs.map (ren0 f)).getD j .junk = ren0 f (cs.getD j .junk) := by
 simp only [List.getD_eq_getElem?_getD, List.getElem?_map]
 cases cs[j]? <;> rfl
theorem V0_of_V1' {ι : Nat → Option Value} {imm : Nat → Prop} {w : World} {x : V} {v : Value} (h : RepV1 ι imm w x v) : RepV0 ι imm w x v := by
 have := V0_of_V1 h
 cases x <;> first | exact this | exact h.elim
theorem ren0_rep {ι' : Nat → Option Value} {f : Nat → Option Nat} (hf : ∀ i k v, f i = some k → ι i = some v → ι' k = some v) {x : V} {v : Value} (hr : RepV0 ι imm w x v) : RepV0 ι' imm w (ren0 f x) v := by
 cases x with
 | d x => exact hr
 | agg cs =>
  obtain ⟨vs, h1, h2, h3⟩ := hr
  refine ⟨vs, h1, by simpa using h2, fun j hj => ?_⟩
  rw [getD_map_ren1]
  exact ⟨ren1_rep hf (h3 j (by simpa using hj)).1, (h3 j (by simpa using hj)).2⟩
 | tup cs => exact hr.elim
 | nil => exact hr
 | fn g => exact hr
 | clo g a b => exact V0_of_V1' (ren1_rep (x := .clo g a b) hf hr)
 | junk => trivial
 | ip x off => exact hr
 | ptr i off => exact V0_of_V1' (ren1_rep (x := .ptr i off) hf hr)
 | ept i sz l off => exact V0_of_V1' (ren1_rep (x := .ept i sz l off) hf hr)
 | own i sz => exact V0_of_V1' (ren1_rep (x := .own i sz) hf hr)
 | ref i sz off len => exact V0_of_V1' (ren1_rep (x := .ref i sz off len) hf hr)
theorem V_of_V0 {ι : Nat → Option Value} {imm : Nat → Prop} {w : World} {x : V} {v : Value} (h : RepV0 ι imm w x v) : RepV ι imm w x v := by
 cases x <;> first | exact h | exact h.elim
theorem ren_rep {ι' : Nat → Option Value} {f : Nat → Option Nat} (hf : ∀ i k v, f i = some k → ι i = some v → ι' k = some v) {x : V} {v : Value} (hr : RepV ι imm w x v) : RepV ι' imm w (ren f x) v := by
 cases x with
 | tup cs =>
  obtain ⟨vs, h1, h2, h3⟩ := hr
  refine ⟨vs, h1, by simpa using h2, fun j hj => ?_⟩
  rw [getD_map_ren0]
  exact ren0_rep hf (h3 j (by simpa using hj))
 | d x => exact V_of_V0 (ren0_rep (x := .d x) hf hr)
 | agg cs => exact V_of_V0 (ren0_rep (x := .agg cs) hf hr)
 | ptr i off => exact V_of_V0 (ren0_rep (x := .ptr i off) hf hr)
 | ept i sz l off => exact V_of_V0 (ren0_rep (x := .ept i sz l off) hf hr)
 | ip x off => exact hr
 | own i sz => exact V_of_V0 (ren0_rep (x := .own i sz) hf hr)
 | ref i sz off len => exact V_of_V0 (ren0_rep (x := .ref i sz off len) hf hr)
 | nil => exact hr
 | fn f => exact hr
 | clo g a b => exact V_of_V0 (ren0_rep (x := .clo g a b) hf hr)
 | junk => trivial
theorem renB_rep {ι' : Nat → Option Value} {f : Nat → Option Nat} (hf : ∀ i k v, f i = some k → ι i = some v → ι' k = some v) {B : Blk} {v : Value} (hr : BlkRep ι imm w B v) : BlkRep ι' imm w (renB f B) v := by
 cases B with
 | dead => trivial
 | row l e sz xs => cases l <;> exact hr
 | var cs =>
  obtain ⟨g, vs, T, h1, h2, h3, h4⟩ := hr
  refine ⟨g, vs, T, h1, h2, by simpa using h3, fun j hj => ?_⟩
  rw [getD_map_ren1]
  exact ⟨ren1_rep hf (h4 j (by simpa using hj)).1, (h4 j (by simpa using hj)).2⟩
theorem live_renB (f : Nat → Option Nat) (B : Blk) : live (renB f B) = live B := by cases B <;> rfl
theorem run_enter {g : FuncId} (hC : Callable P g) {f : Operand} {args : Array Operand} {ts : Array TypeId} (ho : o.op = .call { callee := .value f, args := args, argTypes := ts }) (hf : ρ f = .func (.func g) #[] #[]) :
  (execOp ρ o).run P w = .ok (.enter g (args.map ρ)) w := by
 obtain ⟨fn, h1, h2, h3⟩ := hC
 have h2' : ¬ fn.name = "runtime.NumGoroutine" := by simpa using h2
 obtain ⟨c, hc⟩ : ∃ c, fn.body = some c := by
  cases hb : fn.body with
  | none => rw [hb] at h3; cases h3
  | some c => exact ⟨c, rfl⟩
 simp [execOp, ho, resolve, hf, Deferred.ofValue, invoke, callFunc, h1, h2', hc]
def RepL (ι : Nat → Option Value) (imm : Nat → Prop) (w : World) (l : List V) (vs : Array Value) : Prop := vs.size = l.length ∧ ∀ j, j < l.length → RepV ι imm w (l.getD j .junk) (vs.getD j undef)
theorem RepL.append {l m : List V} {vs us : Array Value} (h1 : RepL ι imm w l vs) (h2 : RepL ι imm w m us) : RepL ι imm w (l ++ m) (vs ++ us) := by
 refine ⟨by rw [Array.size_append, List.length_append, h1.1, h2.1], fun j hj => ?_⟩
 rw [List.length_append] at hj
 by_cases c : j < l.length
 ·have e1 : (l ++ m).getD j .junk = l.getD j .junk := by simp [List.getD, List.getElem?_append, c]
  have e2 : (vs ++ us).getD j undef = vs.getD j undef := by
   have : j < vs.size := by rw [h1.1]; exact c
   simp [Array.getD_eq_getD_getElem?, Array.getElem?_append, this]
  rw [e1, e2]; exact h1.2 j c
 ·have e1 : (l ++ m).getD j .junk = m.getD (j - l.length) .junk := by simp [List.getD, List.getElem?_append, c]
  have e2 : (vs ++ us).getD j undef = us.getD (j - l.length) undef := by
   have : ¬ j < vs.size := by rw [h1.1]; exact c
   rw [Array.getD_eq_getD_getElem?, Array.getElem?_append, if_neg this, h1.1, Array.getD_eq_getD_getElem?]
  rw [e1, e2]; exact h2.2 _ (by omega)
theorem RepL.caps {l : List (Option Nat)} {vs : Array Value} (h : RepCaps ι l vs) : RepL ι imm w (l.map capV) vs := by
 refine ⟨by rw [List.length_map, h.1], fun j hj => ?_⟩
 have hj' : j < l.length := by simpa using hj
 have := h.2 j hj'
 have e : (l.map capV).getD j .junk = capV (l.getD j none) := by simp [List.getD, hj']
 rw [e]
 generalize l.getD j none = c at this ⊢
 cases c with
 | none =>
  have h' : vs.getD j undef = .pointer none := this
  rw [h']; exact RepC.np
 | some i =>
  obtain ⟨g, h1, h2⟩ := this
  exact ⟨g, h1, h2⟩
theorem fnOf_rep (he : ∀ x, RepV ι imm w (ev x) (ρ x)) {f : Operand} {g : FuncId} {args : Array Operand} {ts : Array TypeId} {ls : List V} (hC : Callable P g) (ho : o.op = .call { callee := .value f, args := args, argTypes := ts }) (hf : fnOf (ev f) (args.toList.map ev) = some (g, ls)) :
  ∃ vs, (execOp ρ o).run P w = .ok (.enter g vs) w ∧ RepL ι imm w ls vs := by
 have hargs : RepL ι imm w (args.toList.map ev) (args.map ρ) := by
  refine ⟨by simp, fun j hj => ?_⟩
  have hja : j < args.size := by simpa using hj
  have e1 : (args.toList.map ev).getD j .junk = ev (args.toList.getD j (.const undef)) := by simp [List.getD, hja]
  have e2 : (args.map ρ).getD j undef = ρ (args.toList.getD j (.const undef)) := by simp [Array.getD, hja, List.getD]
  rw [e1, e2]; exact he _
 have h1 := he f
 unfold fnOf at hf
 split at hf
 ·rename_i g' hg
  cases hf
  rw [hg] at h1
  exact ⟨_, run_enter hC ho (repFn h1), hargs⟩
 ·rename_i g' a b hg
  cases hf
  rw [hg] at h1
  obtain ⟨fs, cs, h2, h3, h4⟩ := h1
  refine ⟨fs ++ args.map ρ ++ cs, ?_, ((RepL.caps h3).append hargs).append (RepL.caps h4)⟩
  obtain ⟨fn, k1, k2, k3⟩ := hC
  have k2' : ¬ fn.name = "runtime.NumGoroutine" := by simpa using k2
  obtain ⟨c, hc⟩ : ∃ c, fn.body = some c := by
   cases hb : fn.body with
   | none => rw [hb] at k3; cases k3
   | some c => exact ⟨c, rfl⟩
  simp [execOp, ho, resolve, h2, Deferred.ofValue, invoke, callFunc, k1, k2', hc]
 ·cases hf
theorem toDs_ok : ∀ (l : List V) (ds : List D), toDs Ω h l = some ds → ds.length = l.length ∧ ∀ j, j < l.length → toD Ω h (l.getD j .junk) = some (ds.getD j .np)
 | [], ds, e => by cases e; exact ⟨rfl, fun j hj => absurd hj (Nat.not_lt_zero _)⟩
 | a :: r, ds, e => by
  simp only [toDs] at e
  split at e
  ·rename_i x l' ha hr'
   cases e
   obtain ⟨i1, i2⟩ := toDs_ok r l' hr'
   refine ⟨by simp [i1], fun j hj => ?_⟩
   cases j with
   | zero => exact ha
   | succ j => exact i2 j (by simpa using hj)
  ·cases e
theorem Inv.called (I : Inv ι imm h w) {imm' : Nat → Prop} {w' : World} {ι0 ι1 : Nat → Option Value} {h1 : Heap} (e : Evo ι0 imm (mkH []) w ι1 imm' h1 w') (I1 : Inv ι1 imm' h1 w') (ho : ∀ g, ¬ Owned ι0 (mkH []) g) :
  Inv ι imm' h w' ∧ Evo ι imm h w ι imm' h w' := by
 have keep : ∀ g, g < w.heap.size → w'.heap[g]? = w.heap[g]? := fun g hg => e.keep g hg (ho g)
 have immR : ∀ g, imm' g → imm g ∨ w.heap.size ≤ g := fun g hg => by
  rcases e.immR g hg with q | q | q
  ·exact .inl q
  ·exact .inr q
  ·exact absurd q (ho g)
 refine ⟨⟨fun id B hid => ?_, I.non, fun g o q => ?_, I.inj, I1.lt⟩, ⟨fun _ _ q => q, e.immS, fun g q => (immR g q).imp id .inl, fun g o => .inl o, fun g hg _ => keep g hg, e.size, e.os, e.tape, e.output⟩⟩
 ·obtain ⟨v, h1, h2⟩ := I.blk id B hid
  exact ⟨v, h1, h2.mono (fun _ _ q => q) (fun g hg => ⟨e.immS g hg, keep g (I.lt g hg)⟩) fun g a b => keep g (h2.lt a b)⟩
 ·rcases immR g q with q | q
  ·exact I.own g o q
  ·have := I.owned_lt o; omega
theorem mkH_nil (id : Nat) : mkH [] id = none := by simp [mkH]
theorem not_owned_nil (ι : Nat → Option Value) (g : Nat) : ¬ Owned ι (mkH []) g := by
 rintro ⟨id, B, v, h1, _⟩; rw [mkH_nil] at h1; cases h1
variable (I : Inv ι imm h w) (ok : EnvOk P E) (he : ∀ x, RepV ι imm w (ev x) (ρ x))
include I ok he
theorem op_callPure {f : Operand} {g : FuncId} {args : Array Operand} {ts : Array TypeId} (ho : o.op = .call { callee := .value f, args := args, argTypes := ts }) {ls : List V} (hf : fnOf (ev f) (args.toList.map ev) = some (g, ls)) {ds : List D}
  (hd : toDs Ω h ls = some ds) {r : V} (hC : E.C g ds r) (hK : K { v := r, upd := freezeL h (ls.flatMap idsOf), rd := ls.flatMap idsOf }) :
  OpDone P ι imm h w K ((execOp ρ o).run P w) := by
 obtain ⟨hcall, hgood⟩ := ok.C g ds r hC
 obtain ⟨vs, hrun, hrep⟩ := fnOf_rep he hcall ho hf
 obtain ⟨d1, d2⟩ := toDs_ok _ _ hd
 obtain ⟨imm1, I1, E1⟩ := Inv.freezeL (ls.flatMap idsOf) I
 refine .inr ⟨g, vs, hrun, ?_⟩
 have I0 : Inv (fun _ => none) imm1 (mkH []) w := ⟨fun id B hid => (by rw [mkH_nil] at hid; cases hid), fun _ _ => rfl, fun g o => absurd o (not_owned_nil _ g), fun a b A B x y g h1 => (by rw [mkH_nil] at h1; cases h1), I1.lt⟩
 refine (hgood (fun _ => none) imm1 w vs I0 (by rw [hrep.1, List.length_map, d1]) (fun j hj => ?_)).mono ?_
 ·have hj' : j < ds.length := by simpa using hj
  have hja : j < ls.length := by omega
  have e1 : (ds.map V.d).getD j .junk = .d (ds.getD j .np) := by simp [List.getD, hj']
  have := d2 j hja
  rw [e1]
  refine toD_rep I1 (fun i hi l e z xs hx => freezeL_done h _ i (List.mem_flatMap.2 ⟨ls.getD j .junk, ?_, hi⟩) l e z xs hx) ((hrep.2 j hja).evo I E1) this
  rw [List.getD_eq_getElem?_getD, List.getElem?_eq_getElem hja]
  exact List.getElem_mem hja
 ·rintro e w' ⟨v, ι', imm', rfl, e2, I2, hr⟩
  obtain ⟨I3, E3⟩ := I1.called e2 I2 (not_owned_nil _)
  refine ⟨v, _, ι, imm', rfl, hK, E1.trans E3, I3, hr.mono (fun id v q => ?_) fun g hg => ⟨hg, rfl⟩⟩
  have := I2.non id (mkH_nil id)
  rw [this] at q; cases q
omit I ok he
theorem getAll_ok : ∀ (l : List Nat) (bs : List Blk), getAll h l = some bs → bs.length = l.length ∧ ∀ (j : Nat) (i : Nat), l[j]? = some i → ∃ B, bs[j]? = some B ∧ h i = some B
 | [], bs, e => by cases e; exact ⟨rfl, fun j i hj => by simp at hj⟩
 | a :: r, bs, e => by
  simp only [getAll] at e
  split at e
  ·rename_i x l' ha hr'
   cases e
   obtain ⟨i1, i2⟩ := getAll_ok r l' hr'
   refine ⟨by simp [i1], fun j i hj => ?_⟩
   cases j with
   | zero => simp at hj; subst hj; exact ⟨x, rfl, ha⟩
   | succ j => exact i2 j i (by simpa using hj)
  ·cases e
theorem nodupB_ok : ∀ (l : List Nat), nodupB l = true → l.Nodup
 | [], _ => List.nodup_nil
 | a :: r, e => by
  simp only [nodupB, Bool.and_eq_true, Bool.not_eq_true', List.contains_eq_mem, decide_eq_false_iff_not] at e
  exact List.nodup_cons.2 ⟨e.1, nodupB_ok r e.2⟩
theorem allNew_ok : ∀ (l : List Nat), allNew h l → ∀ i, i ∈ l → h i = none
 | [], _, i, hi => absurd hi List.not_mem_nil
 | a :: r, e, i, hi => by
  rcases List.mem_cons.1 hi with q | q
  ·subst q; exact e.1
  ·exact allNew_ok r e.2 i q
theorem newIds_nodup (id n : Nat) : (newIds id n).Nodup := by
 unfold newIds
 refine List.Pairwise.map _ (fun a b (hab : a ≠ b) => ?_) List.nodup_range
 omega
theorem ups_zip : ∀ (τ : List Nat) (bs : List Blk), τ.Nodup → τ.length = bs.length → ∀ i, (∀ j : Nat, τ[j]? = some i → ∃ B, bs[j]? = some B ∧ ups h (τ.zip bs) i = some B) ∧ (i ∉ τ → ups h (τ.zip bs) i = h i)
 | [], bs, _, _, i => ⟨fun j hj => by simp at hj, fun _ => rfl⟩
 | a :: r, [], _, hl, i => by cases hl
 | a :: r, b :: bs, hn, hl, i => by
  obtain ⟨n1, n2⟩ := List.nodup_cons.1 hn
  obtain ⟨k1, k2⟩ := ups_zip r bs n2 (by simpa using hl) i
  simp only [List.zip_cons_cons, ups]
  refine ⟨fun j hj => ?_, fun hi => ?_⟩
  ·cases j with
   | zero => simp at hj; subst hj; exact ⟨b, rfl, upd_same _ _ _⟩
   | succ j =>
    have hj' : r[j]? = some i := by simpa using hj
    obtain ⟨B, q1, q2⟩ := k1 j hj'
    have hne : i ≠ a := fun q => by subst q; exact n1 (List.mem_of_getElem? hj')
    exact ⟨B, by simpa using q1, by rw [upd_other _ _ _ _ hne]; exact q2⟩
  ·have hne : i ≠ a := fun q => by subst q; exact hi (by simp)
   rw [upd_other _ _ _ _ hne]
   exact k2 fun q => hi (by simp [q])
theorem fore_some {σ : List Nat} {i k : Nat} (hf : fore σ i = some k) : σ[k]? = some i := by
 unfold fore at hf
 rw [List.idxOf?, List.findIdx?_eq_some_iff_getElem] at hf
 obtain ⟨hk, h1, _⟩ := hf
 simp at h1
 rw [List.getElem?_eq_getElem hk, h1]
include I ok he
theorem op_callRef {f : Operand} {g : FuncId} {args : Array Operand} {ts : Array TypeId} (ho : o.op = .call { callee := .value f, args := args, argTypes := ts }) {ls : List V} (hf : fnOf (ev f) (args.toList.map ev) = some (g, ls)) {σ : List Nat} {bs : List Blk}
  (hb : getAll h σ = some bs) {r : V} {bs' : List Blk} (hC : E.C2 g (ls.map (ren (fore σ))) (bs.map (renB (fore σ))) r bs') {ns : List Nat} (hnew : allNew h ns) (hnd : ns.Nodup)
  (hlen : bs.length ≤ bs'.length) (hns : ns.length = bs'.length - bs.length) (hσ : nodupB σ = true)
  (hK : K { v := ren (back (σ ++ ns)) r, upd := (σ ++ ns).zip (bs'.map (renB (back (σ ++ ns)))), rd := σ ++ ns }) :
  OpDone P ι imm h w K ((execOp ρ o).run P w) := by
 obtain ⟨hcall, hgood⟩ := ok.C2 g _ _ r bs' hC
 obtain ⟨vs, hrun, hrep⟩ := fnOf_rep he hcall ho hf
 obtain ⟨b1, b2⟩ := getAll_ok _ _ hb
 have hsn := nodupB_ok _ hσ
 have hnone := allNew_ok _ hnew
 have hsome : ∀ (k : Nat) i, σ[k]? = some i → ∃ B v, bs[k]? = some B ∧ h i = some B ∧ ι i = some v ∧ BlkRep ι imm w B v := fun k i hk => by
  obtain ⟨B, q1, q2⟩ := b2 k i hk
  obtain ⟨v, q3, q4⟩ := I.blk i B q2
  exact ⟨B, v, q1, q2, q3, q4⟩
 have hdis : ∀ i, i ∈ σ → i ∉ ns := fun i a b => by
  obtain ⟨k, hk⟩ := List.mem_iff_getElem?.1 a
  obtain ⟨B, v, _, q, _⟩ := hsome k i hk
  rw [hnone i b] at q; cases q
 have hτn : (σ ++ ns).Nodup := List.nodup_append.2 ⟨hsn, hnd, fun a ha b hb hab => by subst hab; exact hdis a ha hb⟩
 have hτl : (σ ++ ns).length = bs'.length := by rw [List.length_append]; omega
 let ιc : Nat → Option Value := fun k => (σ[k]?).bind ι
 have hιc : ∀ i k v, fore σ i = some k → ι i = some v → ιc k = some v := fun i k v hf hv => by
  show (σ[k]?).bind ι = some v
  rw [fore_some hf]; exact hv
 have hmk : ∀ k B, mkH (bs.map (renB (fore σ))) k = some B → ∃ i B0 v, σ[k]? = some i ∧ h i = some B0 ∧ B = renB (fore σ) B0 ∧ ι i = some v ∧ ιc k = some v ∧ BlkRep ι imm w B0 v := fun k B hB => by
  simp only [mkH, List.getElem?_map] at hB
  cases hk : bs[k]? with
  | none => rw [hk] at hB; cases hB
  | some B0 =>
   rw [hk] at hB; cases hB
   have hlt : k < σ.length := by have := (List.getElem?_eq_some_iff.1 hk).1; omega
   have hki : σ[k]? = some σ[k] := List.getElem?_eq_getElem hlt
   obtain ⟨B1, v, q1, q2, q3, q4⟩ := hsome k _ hki
   rw [hk] at q1; cases q1
   exact ⟨_, _, v, hki, q2, rfl, q3, by show (σ[k]?).bind ι = some v; rw [hki]; exact q3, q4⟩
 have ownc : ∀ x, Owned ιc (mkH (bs.map (renB (fore σ)))) x → ∃ k i B0 v, σ[k]? = some i ∧ h i = some B0 ∧ live B0 = true ∧ ι i = some v ∧ blockOf v = some x ∧ ιc k = some v := fun x ⟨k, B, v, q1, q2, q3, q4⟩ => by
  obtain ⟨i, B0, v', p1, p2, rfl, p3, p4, _⟩ := hmk k B q1
  rw [p4] at q3; cases q3
  exact ⟨k, i, B0, _, p1, p2, (by rw [live_renB] at q2; exact q2), p3, q4, p4⟩
 have ownc' : ∀ x, Owned ιc (mkH (bs.map (renB (fore σ)))) x → Owned ι h x := fun x o => by
  obtain ⟨k, i, B0, v, _, p2, p3, p4, p5, _⟩ := ownc x o
  exact ⟨i, B0, v, p2, p3, p4, p5⟩
 have Ic : Inv ιc imm (mkH (bs.map (renB (fore σ)))) w := by
  refine ⟨fun k B hB => ?_, fun k hk => ?_, fun x o => I.own x (ownc' x o), ?_, I.lt⟩
  ·obtain ⟨i, B0, v, _, _, rfl, _, p4, p5⟩ := hmk k B hB
   exact ⟨v, p4, renB_rep hιc p5⟩
  ·show (σ[k]?).bind ι = none
   have : ¬ k < σ.length := fun q => by
    have : k < (bs.map (renB (fore σ))).length := by simp; omega
    simp only [mkH] at hk
    rw [List.getElem?_eq_getElem this] at hk; cases hk
   rw [List.getElem?_eq_none (by omega)]; rfl
  ·intro k1 k2 B1 B2 v1 v2 x q1 q2 l1 l2 e1 e2 g1 g2
   obtain ⟨i1, A1, u1, p1, p2, rfl, p3, p4, _⟩ := hmk k1 B1 q1
   obtain ⟨i2, A2, u2, r1, r2, rfl, r3, r4, _⟩ := hmk k2 B2 q2
   rw [p4] at e1; cases e1
   rw [r4] at e2; cases e2
   rw [live_renB] at l1 l2
   have := I.inj i1 i2 A1 A2 _ _ x p2 r2 l1 l2 p3 r3 g1 g2
   subst this
   have a1 := (List.getElem?_eq_some_iff.1 p1)
   have a2 := (List.getElem?_eq_some_iff.1 r1)
   obtain ⟨l1, a1⟩ := a1
   obtain ⟨l2, a2⟩ := a2
   exact (List.getElem_inj hsn).1 (a1.trans a2.symm)
 refine .inr ⟨g, vs, hrun, ?_⟩
 refine (hgood ιc imm w vs Ic (by rw [hrep.1, List.length_map]) (fun j hj => ?_)).mono ?_
 ·have hja : j < ls.length := by simpa using hj
  have e1 : (ls.map (ren (fore σ))).getD j .junk = ren (fore σ) (ls.getD j .junk) := by simp [List.getD, hja]
  rw [e1]
  exact ren_rep hιc (hrep.2 j hja)
 ·rintro e w' ⟨v, ι', imm', rfl, e2, I2, hr⟩
  have hι'σ : ∀ (k : Nat) i v, σ[k]? = some i → ι i = some v → ι' k = some v := fun k i v hk hv => e2.ids k v (by show (σ[k]?).bind ι = some v; rw [hk]; exact hv)
  let ι2 : Nat → Option Value := fun i => match fore ns i with
   | some k => ι' (bs.length + k)
   | none => ι i
  have fore_none : ∀ i, i ∉ ns → fore ns i = none := fun i hi => by
   unfold fore
   rw [List.idxOf?, List.findIdx?_eq_none_iff]
   intro x hx
   simp
   intro q; subst q; exact hi hx
  have hold : ∀ i, i ∉ ns → ι2 i = ι i := fun i hi => by show (match fore ns i with | some k => _ | none => _) = _; rw [fore_none i hi]
  have hmono : ∀ i v, ι i = some v → ι2 i = some v := fun i v hv => by
   rw [hold i fun q => by rw [I.non i (hnone i q)] at hv; cases hv]; exact hv
  have hback : ∀ k i v, back (σ ++ ns) k = some i → ι' k = some v → ι2 i = some v := fun k i v hk hv => by
   simp only [back] at hk
   by_cases c : k < σ.length
   ·rw [List.getElem?_append_left c] at hk
    obtain ⟨B, u, _, _, q3, _⟩ := hsome k i hk
    have := hι'σ k i u hk q3
    rw [hv] at this; cases this
    exact hmono i v q3
   ·rw [List.getElem?_append_right (by omega)] at hk
    have hf : fore ns i = some (k - σ.length) := by
     unfold fore
     rw [List.idxOf?, List.findIdx?_eq_some_iff_getElem]
     obtain ⟨hlt, he'⟩ := List.getElem?_eq_some_iff.1 hk
     refine ⟨hlt, by simp [he'], fun j hj => ?_⟩
     simp
     intro q
     have := (List.getElem_inj (h₀ := by omega) (h₁ := hlt) hnd).1 (q.trans he'.symm)
     omega
    show (match fore ns i with | some k => ι' (bs.length + k) | none => ι i) = some v
    rw [hf]
    show ι' (bs.length + (k - σ.length)) = some v
    rw [show bs.length + (k - σ.length) = k by omega]; exact hv
  have keepc : ∀ x, x < w.heap.size → ¬ Owned ιc (mkH (bs.map (renB (fore σ)))) x → w'.heap[x]? = w.heap[x]? := e2.keep
  have hH : ∀ i, (∀ k : Nat, (σ ++ ns)[k]? = some i → ∃ B, bs'[k]? = some B ∧ ups h ((σ ++ ns).zip (bs'.map (renB (back (σ ++ ns))))) i = some (renB (back (σ ++ ns)) B)) ∧ (i ∉ σ ++ ns → ups h ((σ ++ ns).zip (bs'.map (renB (back (σ ++ ns))))) i = h i) := fun i => by
   obtain ⟨k1, k2⟩ := ups_zip (h := h) (σ ++ ns) (bs'.map (renB (back (σ ++ ns)))) hτn (by simpa using hτl) i
   refine ⟨fun k hk => ?_, k2⟩
   obtain ⟨B, q1, q2⟩ := k1 k hk
   rw [List.getElem?_map] at q1
   cases hB : bs'[k]? with
   | none => rw [hB] at q1; cases q1
   | some B0 => rw [hB] at q1; cases q1; exact ⟨B0, rfl, q2⟩
  have hcase : ∀ i B, ups h ((σ ++ ns).zip (bs'.map (renB (back (σ ++ ns))))) i = some B → (∃ (k : Nat) (B0 : Blk) (v : Value), (σ ++ ns)[k]? = some i ∧ B = renB (back (σ ++ ns)) B0 ∧ mkH bs' k = some B0 ∧ ι' k = some v ∧ ι2 i = some v ∧ BlkRep ι' imm' w' B0 v) ∨
    (i ∉ σ ∧ i ∉ ns ∧ h i = some B) := fun i B hB => by
   by_cases c : i ∈ σ ++ ns
   ·obtain ⟨k, hk⟩ := List.mem_iff_getElem?.1 c
    obtain ⟨B0, q1, q2⟩ := (hH i).1 k hk
    rw [hB] at q2; cases q2
    obtain ⟨v, q3, q4⟩ := I2.blk k B0 q1
    exact .inl ⟨k, B0, v, hk, rfl, q1, q3, hback k i v hk q3, q4⟩
   ·rw [(hH i).2 c] at hB
    rw [List.mem_append, not_or] at c
    exact .inr ⟨c.1, c.2, hB⟩
  have apart : ∀ i B v x, i ∉ σ → h i = some B → live B = true → ι i = some v → blockOf v = some x → ¬ Owned ιc (mkH (bs.map (renB (fore σ)))) x := fun i B v x hi q1 q2 q3 q4 o => by
   obtain ⟨k, i', B0, v', p1, p2, p3, p4, p5, _⟩ := ownc x o
   have := I.inj i i' B B0 v v' x q1 p2 q2 p3 q3 p4 q4 p5
   subst this
   exact hi (List.mem_of_getElem? p1)
  have own2 : ∀ x, Owned ι2 (ups h ((σ ++ ns).zip (bs'.map (renB (back (σ ++ ns)))))) x → Owned ι' (mkH bs') x ∨ (∃ i B v, i ∉ σ ∧ i ∉ ns ∧ h i = some B ∧ live B = true ∧ ι i = some v ∧ blockOf v = some x) := fun x ⟨i, B, v, q1, q2, q3, q4⟩ => by
   rcases hcase i B q1 with ⟨k, B0, u, p1, rfl, p2, p3, p4, _⟩ | ⟨p1, p1', p2⟩
   ·rw [p4] at q3; cases q3
    exact .inl ⟨k, B0, _, p2, by rw [live_renB] at q2; exact q2, p3, q4⟩
   ·rw [hold i p1'] at q3
    exact .inr ⟨i, B, v, p1, p1', p2, q2, q3, q4⟩
  have notimm : ∀ i B v x, i ∉ σ → h i = some B → live B = true → ι i = some v → blockOf v = some x → ¬ imm' x := fun i B v x hi q1 q2 q3 q4 c => by
   rcases e2.immR x c with q | q | q
   ·exact I.own x ⟨i, B, v, q1, q2, q3, q4⟩ q
   ·have := I.owned_lt ⟨i, B, v, q1, q2, q3, q4⟩; omega
   ·exact apart i B v x hi q1 q2 q3 q4 q
  have hm : ∀ x, imm x → imm' x ∧ w'.heap[x]? = w.heap[x]? := fun x hx => ⟨e2.immS x hx, keepc x (I.lt x hx) fun o => I.own x (ownc' x o) hx⟩
  refine ⟨v, _, ι2, imm', rfl, hK, ⟨hmono, e2.immS, fun x hx => ?_, fun x o => ?_, fun x hx hn => keepc x hx fun o => hn (ownc' x o), e2.size, e2.os, e2.tape, e2.output⟩, ⟨fun i B hB => ?_, fun i hi => ?_, fun x o => ?_, ?_, I2.lt⟩, ?_⟩
  ·rcases e2.immR x hx with q | q | q
   ·exact .inl q
   ·exact .inr (.inl q)
   ·exact .inr (.inr (ownc' x q))
  ·rcases own2 x o with q | ⟨i, B, v, _, _, q1, q2, q3, q4⟩
   ·rcases e2.own' x q with q | q
    ·exact .inl (ownc' x q)
    ·exact .inr q
   ·exact .inl ⟨i, B, v, q1, q2, q3, q4⟩
  ·rcases hcase i B hB with ⟨k, B0, u, p1, rfl, p2, p3, p4, p5⟩ | ⟨p1, p1', p2⟩
   ·exact ⟨u, p4, renB_rep (fun a b c => hback a b c) p5⟩
   ·obtain ⟨u, q1, q2⟩ := I.blk i B p2
    exact ⟨u, hmono i u q1, q2.mono hmono hm fun x l b => keepc x (q2.lt l b) (apart i B u x p1 p2 l q1 b)⟩
  ·have c : i ∉ σ ++ ns := fun c => by
    obtain ⟨k, hk⟩ := List.mem_iff_getElem?.1 c
    obtain ⟨B0, _, q2⟩ := (hH i).1 k hk
    rw [hi] at q2; cases q2
   rw [(hH i).2 c] at hi
   rw [List.mem_append, not_or] at c
   rw [hold i c.2]; exact I.non i hi
  ·rcases own2 x o with q | ⟨i, B, v, q0, _, q1, q2, q3, q4⟩
   ·exact I2.own x q
   ·exact notimm i B v x q0 q1 q2 q3 q4
  ·intro i1 i2 B1 B2 v1 v2 x q1 q2 l1 l2 t1 t2 g1 g2
   have cross : ∀ (k : Nat) (B0 : Blk) (u : Value) j Bj uj, mkH bs' k = some B0 → live B0 = true → ι' k = some u → blockOf u = some x → j ∉ σ → h j = some Bj → live Bj = true → ι j = some uj → blockOf uj = some x → False := fun k B0 u j Bj uj a1 a2 a3 a4 c1 c2 c3 c4 c5 => by
    rcases e2.own' x ⟨k, B0, u, a1, a2, a3, a4⟩ with q | q
    ·exact apart j Bj uj x c1 c2 c3 c4 c5 q
    ·have := I.owned_lt ⟨j, Bj, uj, c2, c3, c4, c5⟩; omega
   rcases hcase i1 B1 q1 with ⟨k, B0, u, p1, rfl, p2, p3, p4, _⟩ | ⟨p1, p1', p2⟩
   ·rw [p4] at t1; cases t1
    rw [live_renB] at l1
    rcases hcase i2 B2 q2 with ⟨k', B0', u', p1', rfl, p2', p3', p4', _⟩ | ⟨r1, r1', r2⟩
    ·rw [p4'] at t2; cases t2
     rw [live_renB] at l2
     have := I2.inj k k' B0 B0' _ _ x p2 p2' l1 l2 p3 p3' g1 g2
     subst this
     rw [p1] at p1'; cases p1'; rfl
    ·rw [hold i2 r1'] at t2
     exact (cross k B0 _ i2 B2 v2 p2 l1 p3 g1 r1 r2 l2 t2 g2).elim
   ·rw [hold i1 p1'] at t1
    rcases hcase i2 B2 q2 with ⟨k', B0', u', r1, rfl, r2, r3, r4, _⟩ | ⟨r1, r1', r2⟩
    ·rw [r4] at t2; cases t2
     rw [live_renB] at l2
     exact (cross k' B0' _ i1 B1 v1 r2 l2 r3 g2 p1 p2 l1 t1 g1).elim
    ·rw [hold i2 r1'] at t2
     exact I.inj i1 i2 B1 B2 v1 v2 x p2 r2 l1 l2 t1 t2 g1 g2
  ·exact ren_rep (fun a b c => hback a b c) hr
end
theorem ups_zip_self {h : Heap} : ∀ (σ : List Nat) (bs : List Blk), getAll h σ = some bs → ups h (σ.zip bs) = h
 | [], bs, e => by cases e; rfl
 | i :: r, bs, e => by
  simp only [getAll] at e
  split at e
  ·rename_i b l hb hl
   cases e
   show upd (ups h (r.zip l)) i (some b) = h
   rw [ups_zip_self r l hl]
   funext t
   by_cases c : t = i
   ·subst c; rw [upd_same, hb]
   ·rw [upd_other _ _ _ _ c]
  ·cases e
theorem OpDone.map {P : Program} {ι : Nat → Option Value} {imm : Nat → Prop} {h : Heap} {w : World} {K K' : Out → Prop} {r : Result Next} (hK : ∀ out, K out → ∃ out', K' out' ∧ out'.v = out.v ∧ ups h out'.upd = ups h out.upd)
  (hd : OpDone P ι imm h w K r) : OpDone P ι imm h w K' r := by
 rcases hd with ⟨out, v, w', ι', imm', h1, h2, h3, h4, h5⟩ | ⟨g, vs, h1, h2⟩
 ·obtain ⟨out', k1, k2, k3⟩ := hK out h2
  exact .inl ⟨out', v, w', ι', imm', h1, k1, by rw [k3]; exact h3, by rw [k3]; exact h4, by rw [k2]; exact h5⟩
 ·refine .inr ⟨g, vs, h1, h2.mono fun e w' q => ?_⟩
  obtain ⟨v, out, ι', imm', q1, q2, q3, q4, q5⟩ := q
  obtain ⟨out', k1, k2, k3⟩ := hK out q2
  exact ⟨v, out', ι', imm', q1, k1, by rw [k3]; exact q3, by rw [k3]; exact q4, by rw [k2]; exact q5⟩
theorem capsOf_rep {ι : Nat → Option Value} {imm : Nat → Prop} {w : World} {ev : Operand → V} {ρ : Operand → Value} (he : ∀ x, RepV ι imm w (ev x) (ρ x)) : ∀ (l : List Operand) (c : List (Option Nat)), capsOf (l.map ev) = some c → c.length = l.length ∧ ∀ j, j < l.length → RepCap ι (c.getD j none) (ρ (l.getD j (.const undef)))
 | [], c, e => by cases e; exact ⟨rfl, fun j hj => absurd hj (Nat.not_lt_zero _)⟩
 | a :: r, c, e => by
  simp only [List.map_cons, capsOf] at e
  split at e
  ·rename_i x l hx hl
   cases e
   obtain ⟨k1, k2⟩ := capsOf_rep he r l hl
   refine ⟨by simp [k1], fun j hj => ?_⟩
   cases j with
   | zero =>
    have h := he a
    show RepCap ι x (ρ a)
    unfold capOf at hx
    split at hx
    ·rename_i i hv
     cases hx
     rw [hv] at h
     obtain ⟨g, h1, h2⟩ := h
     exact ⟨g, h1, h2⟩
    ·rename_i hv
     cases hx
     rw [hv] at h
     have h' : RepC imm w .np (ρ a) := h
     generalize ρ a = va at h' ⊢
     cases h'
     rfl
    ·cases hx
   | succ j => exact k2 j (by simpa using hj)
  ·cases e
theorem op_makeFunc {ι : Nat → Option Value} {imm : Nat → Prop} {h : Heap} {w : World} {K : Out → Prop} {P : Program} {E : Env} {draw : Bool} {ev : Operand → V} {ρ : Operand → Value} {o : Oper} {id : Nat} (I : Inv ι imm h w) (he : ∀ x, RepV ι imm w (ev x) (ρ x))
  {fn : Fn} {first captured : Array Operand} (ho : o.op = .makeFunc fn first captured) (hK : opR Ω E draw ev h o.op id K) : Done ι imm h w K ((execOp ρ o).run P w) := by
 rw [ho] at hK
 have key : ∀ (l : Array Operand) c, capsOf (l.toList.map ev) = some c → RepCaps ι c (l.map ρ) := fun l c e => by
  obtain ⟨k1, k2⟩ := capsOf_rep he _ _ e
  refine ⟨by rw [Array.size_map, k1, Array.length_toList], fun j hj => ?_⟩
  have hj' : j < l.toList.length := by omega
  have hja : j < l.size := by simpa using hj'
  have := k2 j hj'
  have e2 : (l.map ρ).getD j undef = ρ (l.toList.getD j (.const undef)) := by simp [Array.getD, hja, List.getD]
  rw [e2]; exact this
 simp only [opR] at hK
 split at hK
 ·rename_i g e1 e2
  have h1 := key _ _ e1
  have h2 := key _ _ e2
  have z1 : first.map ρ = #[] := Array.eq_empty_of_size_eq_zero h1.1
  have z2 : captured.map ρ = #[] := Array.eq_empty_of_size_eq_zero h2.1
  refine Done.val (v := .func (.func g) #[] #[]) I ?_ hK rfl
  simp [execOp, ho, Instr.makeFunc, z1, z2]
 ·rename_i g a b _ e1 e2
  exact Done.val (v := .func (.func g) (first.map ρ) (captured.map ρ)) I (by simp [execOp, ho, Instr.makeFunc]) hK ⟨_, _, rfl, key _ _ e1, key _ _ e2⟩
 ·exact hK.elim
end Go.K
end
