/-
  Parts of the proof, joined by a program of this work: KOps7, KOps8, KOps9, KOps10.
-/
import Derived.Test.YtlolgojfeijjhaaGreatDoorQad
import Derived.Laws.IdiomCopy
import Derived.Laws.CopyRow
set_option linter.unusedSectionVars false
set_option linter.unusedSimpArgs false
set_option linter.unusedVariables false
section
namespace Go.K
open Go
section
variable {ι : Nat → Option Value} {imm : Nat → Prop} {h : Heap} {w : World} {K : Out → Prop}
variable {P : Program} {E : Env} {draw : Bool} {ev : Operand → V} {ρ : Operand → Value} {o : Oper} {id : Nat}
theorem split_ix {k n size : Nat} (hs : 0 < size) (h : k < n * size) : k / size < n ∧ k % size < size ∧ (k / size) * size + k % size = k :=
 ⟨(Nat.div_lt_iff_lt_mul hs).2 h, Nat.mod_lt _ hs, by rw [Nat.mul_comm]; exact Nat.div_add_mod k size⟩
theorem src_cells {ys : List D} {a : Option Addr} {n c size : Nat} (hr : RepC imm w (.sl ys) (.slice a n c)) (hu : ∀ u, u ∈ ys → u.cells.length = size) (hs : 0 < size) (hne : ys ≠ []) :
  ∃ (ad : Addr) (news : List Value), a = some ad ∧ n = ys.length ∧ news.length = ys.length * size ∧ (∀ j v, news[j]? = some v → w.cell? (ad.add j) = some v) ∧ (∀ u, u ∈ news → u.oneCell' = true) ∧
   ∀ i j, i < ys.length → j < size → RepC imm w ((ys.getD i .np).cells.getD j .np) (news.getD (i * size + j) undef) := by
 cases hr with
 | sl0 => exact absurd rfl hne
 | sl _ g off cap sz cs T fr _ hi hg hc hs' hb hr =>
  have hsz : sz = size := by
   cases ys with
   | nil => exact absurd rfl hne
   | cons a r => exact (hs' a (by simp)).symm.trans (hu a (by simp))
  subst hsz
  refine ⟨⟨g, off, none⟩, (List.range (ys.length * sz)).map fun k => cs.getD (off + k) undef, rfl, rfl, by simp, ?_, ?_, ?_⟩
  ·intro j v hj
   have hlt : j < ys.length * sz := by
    have := (List.getElem?_eq_some_iff.1 hj).1; simpa using this
   obtain ⟨a1, a2, a3⟩ := split_ix hs hlt
   have hb' := hb _ _ a1 a2
   rw [a3] at hb'
   rw [addr_add]
   simp only [List.getElem?_map, List.getElem?_range hlt, Option.map_some, Option.some.injEq] at hj
   subst hj
   simp [World.cell?, hg, Array.getD, hb']
  ·intro u hm
   simp only [List.mem_map, List.mem_range] at hm
   obtain ⟨k, hk, rfl⟩ := hm
   obtain ⟨a1, a2, a3⟩ := split_ix hs hk
   have := (hr _ _ a1 a2).one
   rw [a3] at this
   exact this
  ·intro i j hi' hj
   have hk : i * sz + j < ys.length * sz := by
    have := Nat.mul_le_mul_right sz (Nat.succ_le_of_lt hi'); rw [Nat.succ_mul] at this; omega
   have e : ((List.range (ys.length * sz)).map fun k => cs.getD (off + k) undef).getD (i * sz + j) undef = cs.getD (off + (i * sz + j)) undef := by
    rw [List.getD_eq_getElem?_getD, List.getElem?_map, List.getElem?_range hk]; rfl
   rw [e]
   exact hr i j hi' hj
theorem cells_append {xs ys : List D} {cx cy : List Value} {size : Nat} (hx : cx.length = xs.length * size)
  (h1 : ∀ i j, i < xs.length → j < size → RepC imm w ((xs.getD i .np).cells.getD j .np) (cx.getD (i * size + j) undef))
  (h2 : ∀ i j, i < ys.length → j < size → RepC imm w ((ys.getD i .np).cells.getD j .np) (cy.getD (i * size + j) undef)) :
  ∀ i j, i < (xs ++ ys).length → j < size → RepC imm w (((xs ++ ys).getD i .np).cells.getD j .np) ((cx ++ cy).getD (i * size + j) undef) := by
 intro i j hi hj
 by_cases c : i < xs.length
 ·have e1 : (xs ++ ys).getD i .np = xs.getD i .np := by simp [List.getD, List.getElem?_append, c]
  have hk : i * size + j < cx.length := by
   have := Nat.mul_le_mul_right size (Nat.succ_le_of_lt c); rw [Nat.succ_mul] at this; omega
  have e2 : (cx ++ cy).getD (i * size + j) undef = cx.getD (i * size + j) undef := by simp [List.getD, List.getElem?_append, hk]
  rw [e1, e2]; exact h1 i j c hj
 ·have hi' : i - xs.length < ys.length := by simp at hi; omega
  have e1 : (xs ++ ys).getD i .np = ys.getD (i - xs.length) .np := by simp [List.getD, List.getElem?_append, c]
  have hm : i * size = xs.length * size + (i - xs.length) * size := by rw [← Nat.add_mul]; congr 1; omega
  have hk : ¬ i * size + j < cx.length := by rw [hx, hm]; omega
  have e2 : (cx ++ cy).getD (i * size + j) undef = cy.getD ((i - xs.length) * size + j) undef := by
   have : i * size + j - cx.length = (i - xs.length) * size + j := by rw [hx, hm]; omega
   simp [List.getD, List.getElem?_append, hk, this]
  rw [e1, e2]; exact h2 _ j hi' hj
theorem run_append_nothing {T ty e : TypeId} {info : TypeInfo} (hu : P.underlying T = some (.slice e)) (hi : P.info? e = some info) (base b : Option Addr) (n cap c : Nat) (hc : n ≤ cap) :
  (Builtin.append_ #[T, T] ty #[.slice base n cap, .slice b 0 c]).run P w = .ok (.slice base n cap) w := by
 have hf : (Builtin.firstCells info.size 0 (.slice b 0 c)).run P w = .ok #[] w := by
  cases b with
  | none => simp [Builtin.firstCells]
  | some b => simp [Builtin.firstCells, loadCells, loadCellsFrom]
 cases base with
 | none => simp [Builtin.append_, run_underlying hu, sizeOf, typeInfo, hi, Builtin.lenOf, hc, hf]
 | some a => simp [Builtin.append_, run_underlying hu, sizeOf, typeInfo, hi, Builtin.lenOf, hc, hf, storeCells]
theorem row_copy {xs zs : List D} {cur cs : List Value} {off : Nat} (hf : off + zs.length ≤ xs.length) (hcs : xs.length ≤ cur.length) (hl : cs.length = zs.length)
  (hx : ∀ i, i < xs.length → RepC imm w ((xs.getD i .np).cells.getD 0 .np) (cur.getD i undef))
  (hz : ∀ i, i < zs.length → RepC imm w ((zs.getD i .np).cells.getD 0 .np) (cs.getD i undef)) :
  ∀ i, i < xs.length → RepC imm w (((xs.take off ++ zs ++ xs.drop (off + zs.length)).getD i .np).cells.getD 0 .np) ((cur.take off ++ cs ++ cur.drop (off + zs.length)).getD i undef) := by
 intro i hi
 have l1 : (xs.take off).length = off := by rw [List.length_take]; omega
 have l2 : (cur.take off).length = off := by rw [List.length_take]; omega
 have h1 := hx i hi
 have ea : (xs.take off ++ zs ++ xs.drop (off + zs.length)).getD i .np = if i < off then xs.getD i .np else if i < off + zs.length then zs.getD (i - off) .np else xs.getD i .np := by
  simp only [List.getD_eq_getElem?_getD, List.getElem?_append, l1, List.length_append, List.getElem?_take, List.getElem?_drop]
  by_cases a : i < off
  ·have : i < off + zs.length := by omega
   simp [a, this]
  ·by_cases b : i < off + zs.length
   ·simp [a, b]
   ·have e : off + zs.length + (i - (off + zs.length)) = i := by omega
    simp [a, b, e]
 have eb : (cur.take off ++ cs ++ cur.drop (off + zs.length)).getD i undef = if i < off then cur.getD i undef else if i < off + zs.length then cs.getD (i - off) undef else cur.getD i undef := by
  simp only [List.getD_eq_getElem?_getD, List.getElem?_append, l2, List.length_append, hl, List.getElem?_take, List.getElem?_drop]
  by_cases a : i < off
  ·have : i < off + zs.length := by omega
   simp [a, this]
  ·by_cases b : i < off + zs.length
   ·simp [a, b]
   ·have e : off + zs.length + (i - (off + zs.length)) = i := by omega
    simp [a, b, e]
 rw [ea, eb]
 by_cases a : i < off
 ·rw [if_pos a, if_pos a]; exact h1
 ·rw [if_neg a, if_neg a]
  by_cases b : i < off + zs.length
  ·rw [if_pos b, if_pos b]; exact hz _ (by omega)
  ·rw [if_neg b, if_neg b]; exact h1
theorem strOf_some {v : V} {b : ByteArray} (h : strOf v = some b) : v = .d (.s b) := by
 unfold strOf at h
 split at h <;> cases h
 rfl
theorem run_append_nil_str (w : World) (t u ty e : TypeId) (i : TypeInfo) (z : Value) (ht : P.underlying t = some (.slice e)) (hu : P.underlying u = some .string) (hi : P.info? e = some i) (hz : i.zero = some z)
  (s : ByteArray) (h0 : 0 < s.size) (h63 : (s.size : Int) ≤ 9223372036854775807) (h48 : s.size * i.bytes ≤ 281474976710656) :
  (Builtin.append_ #[t, u] ty #[.slice none 0 0, .string s]).run P w = .ok (.slice (some ⟨w.heap.size, 0, none⟩) s.size (grownCap w s.size 0 e))
   (w.drew.alloc (.cells ((Lib.strCells s).toArray ++ Builtin.zeroCells z.cells (grownCap w s.size 0 e - s.size)) e)) := by
 have hr := run_append_nil_string (P := P) w t u ty e i z ht hu hi hz s h0 h63 h48
 have e1 : (s.data.map fun b => Value.int .u8 b.toNat) = (Lib.strCells s).toArray := by
  apply Array.ext'
  simp [Lib.strCells]
 rw [e1] at hr
 exact hr
theorem append_str {a b : Operand} {T U : TypeId} {e size bytes : Nat} {z : Value} {und : TypeDesc} {und0 : Option Value} {s1 s2 : Nat} {sb : ByteArray}
  (I : Inv ι imm h w) (tt : TTok P E.tt) (ho : o.op = .call { callee := .builtin .append, args := #[a, b], argTypes := #[T, U] }) (hT : TOk P T ⟨s1, s2, und0, .slice e⟩) (hE : TOk P e ⟨size, bytes, some z, und⟩)
  (h1 : RepV ι imm w (ev a) (ρ a)) (h2b : ρ b = .string sb)
  (hK : appStr Ω E h id e U size bytes z (ev a) sb K) : Done ι imm h w K ((execOp ρ o).run P w) := by
 obtain ⟨info, i1, i2, i3, i4⟩ := hE.ok
 have fin : ∀ v w', (Builtin.append_ #[T, U] o.type #[ρ a, ρ b]).run P w = .ok v w' → (execOp ρ o).run P w = .ok (.value v) w' := fun v w' hr => by
  simp [execOp, ho, resolve, invoke, builtin, hr]
 have hlb : (Ω .bcl sb).length = sb.size := by rw [w_bcl, List.length_map, Array.length_toList]; rfl
 have hrep : ∀ (imm' : Nat → Prop) (w' : World) (i : Nat), i < sb.size → RepC imm' w' (((Ω .bcl sb).getD i .np).cells.getD 0 .np) ((Lib.strCells sb).getD i undef) := fun imm' w' i hi => by
  have hi' : i < sb.data.toList.length := by rw [Array.length_toList]; exact hi
  have e1 := bcs_get sb.data.toList i (sb.data.toList[i]) (List.getElem?_eq_getElem hi')
  rw [bcl_bcs, e1]
  have e2 : (Lib.strCells sb).getD i undef = .int .u8 (sb.data.toList[i].toNat : Int) := by
   rw [Lib.strCells, List.getD_eq_getElem?_getD, List.getElem?_map, List.getElem?_eq_getElem hi']; rfl
  rw [e2]; exact .i _ _
 have hcl := Lib.strCells_length sb
 unfold appStr at hK
 simp only [w_slen, w_scat, w_nadd, w_room, w_bsz] at hK
 split at hK
 rotate_left
 ·exact hK.elim
 rename_i u1 u2 u3 hU
 have hUs := (tt _ _ hU).und
 obtain ⟨rfl, rfl, rfl, hid, hK⟩ := hK
 split at hK
 ·rename_i hx
  obtain ⟨⟨_, hroom⟩, hK⟩ := hK
  rw [hx] at h1
  have h2 : ρ a = .slice none 0 0 := h1
  by_cases hz : sb.size = 0
  ·have hr : (Builtin.append_ #[T, U] o.type #[ρ a, ρ b]).run P w = .ok (.slice none 0 0) w := by
    rw [h2, h2b]
    have hf := Lib.run_firstCells_string (P := P) w 1 sb
    simp [Builtin.append_, run_underlying hT.und, run_underlying hUs, sizeOf, typeInfo, i1, i2, Builtin.lenOf, hz] at hf ⊢
    rw [hf]; rfl
   have hnil : Ω .bcl sb = [] := List.eq_nil_of_length_eq_zero (by rw [hlb]; exact hz)
   rw [hnil] at hK
   have st := I.fresh hid (.slice none 0 0) (.row true e 1 []) (w' := w) (Nat.le_refl _) (fun _ _ => rfl) rfl rfl rfl (fun g hg => by cases hg)
    ⟨[], rowOwn_nil w 0 e 1, fun _ q => absurd q List.not_mem_nil, fun _ _ q => absurd q (Nat.not_lt_zero _)⟩
   exact ⟨_, _, _, _, imm, .inl (fin _ _ hr), hK, st.2, st.1, ⟨upd_same _ _ _, .inl rfl⟩⟩
  ·have hpos : 0 < sb.size := Nat.pos_of_ne_zero hz
   have hr := run_append_nil_str (P := P) w T U o.type e info (.int .u8 0) hT.und hUs i1 i4 sb hpos (by omega) (by rw [i3]; show sb.size * 1 ≤ _; omega)
   have hgc := grownCap_ge w sb.size 0 e
   have hgm : grownCap w sb.size 0 e ≤ maxLen := grownCap_le_maxLen w _ _ e (by simp only [maxLen]; omega)
   have st := I.fresh hid (.slice (some ⟨w.heap.size, 0, none⟩) sb.size (grownCap w sb.size 0 e)) (.row true e 1 (Ω .bcl sb))
    (w' := w.drew.alloc (.cells ((Lib.strCells sb).toArray ++ Builtin.zeroCells (Value.int .u8 0).cells (grownCap w sb.size 0 e - sb.size)) e)) (by simp)
    (fun g hg => heap_alloc_old w.drew _ g hg) rfl rfl rfl (fun g hg => by cases hg; exact Nat.le_refl _) ?_
   ·exact ⟨_, _, _, _, imm, .inl (fin _ _ (by rw [h2, h2b]; exact hr)), hK, st.2, st.1, ⟨upd_same _ _ _, .inr ⟨_, _, _, rfl⟩⟩⟩
   ·refine ⟨Lib.strCells sb, ⟨by rw [hlb, hcl, Nat.mul_one], .inr ⟨w.heap.size, _, _, _, by rw [hlb], Nat.zero_le _, heap_alloc_new w.drew _, .inl rfl, by rw [hlb]; exact hgc, hgm, ?_, ?_⟩⟩, bcs_one _, fun i q hi hq => ?_⟩
    ·refine Nat.le_of_eq (Eq.symm ?_)
     rw [Array.size_append, List.size_toArray, size_zeroCells, hcl]
     show sb.size + (_ - _) * 1 = _
     omega
    ·rw [hlb, Array.toList_append, Nat.mul_one, ← hcl]; exact List.take_left
    ·obtain rfl : q = 0 := by omega
     rw [show i * 1 + 0 = i by omega]
     exact hrep _ _ i (by rw [hlb] at hi; exact hi)
 ·rename_i j sz hx
  rw [hx] at h1
  split at hK
  ·rename_i e' z' xs hj
   obtain ⟨rfl, rfl, ⟨_, hroom⟩, hK⟩ := hK
   obtain ⟨hιj, hblk, hform⟩ := own_form I hj h1
   obtain ⟨cells, ho', hux, hcx⟩ := hblk
   have hne : j ≠ id := fun q => by subst q; rw [hid] at hj; cases hj
   have g1 := I.giveUp hj
   have hid2 : upd h j (some Blk.dead) id = none := by rw [upd_other _ _ _ _ (Ne.symm hne)]; exact hid
   rcases hform with ⟨h2, hxs⟩ | ⟨g, cap, h2, hcap⟩
   ·subst hxs
    rw [List.nil_append] at hK
    by_cases hz : sb.size = 0
    ·have hr : (Builtin.append_ #[T, U] o.type #[ρ a, ρ b]).run P w = .ok (.slice none 0 0) w := by
      rw [h2, h2b]
      have hf := Lib.run_firstCells_string (P := P) w 1 sb
      simp [Builtin.append_, run_underlying hT.und, run_underlying hUs, sizeOf, typeInfo, i1, i2, Builtin.lenOf, hz] at hf ⊢
      rw [hf]; rfl
     have hnil : Ω .bcl sb = [] := List.eq_nil_of_length_eq_zero (by rw [hlb]; exact hz)
     rw [hnil] at hK
     have st := g1.1.fresh hid2 (.slice none 0 0) (.row true e' 1 []) (w' := w) (Nat.le_refl _) (fun _ _ => rfl) rfl rfl rfl (fun g hg => by cases hg)
      ⟨[], rowOwn_nil w 0 e' 1, fun _ q => absurd q List.not_mem_nil, fun _ _ q => absurd q (Nat.not_lt_zero _)⟩
     exact ⟨_, _, _, _, imm, .inl (fin _ _ hr), hK, g1.2.trans st.2, st.1, ⟨upd_same _ _ _, .inl rfl⟩⟩
    ·have hpos : 0 < sb.size := Nat.pos_of_ne_zero hz
     have hr := run_append_nil_str (P := P) w T U o.type e' info (.int .u8 0) hT.und hUs i1 i4 sb hpos (by omega) (by rw [i3]; show sb.size * 1 ≤ _; simp at hroom; omega)
     have hgc := grownCap_ge w sb.size 0 e'
     have hgm : grownCap w sb.size 0 e' ≤ maxLen := grownCap_le_maxLen w _ _ e' (by simp only [maxLen]; simp at hroom; omega)
     have st := g1.1.fresh hid2 (.slice (some ⟨w.heap.size, 0, none⟩) sb.size (grownCap w sb.size 0 e')) (.row true e' 1 (Ω .bcl sb))
      (w' := w.drew.alloc (.cells ((Lib.strCells sb).toArray ++ Builtin.zeroCells (Value.int .u8 0).cells (grownCap w sb.size 0 e' - sb.size)) e')) (by simp)
      (fun g hg => heap_alloc_old w.drew _ g hg) rfl rfl rfl (fun g hg => by cases hg; exact Nat.le_refl _) ?_
     ·exact ⟨_, _, _, _, imm, .inl (fin _ _ (by rw [h2, h2b]; exact hr)), hK, g1.2.trans st.2, st.1, ⟨upd_same _ _ _, .inr ⟨_, _, _, rfl⟩⟩⟩
     ·refine ⟨Lib.strCells sb, ⟨by rw [hlb, hcl, Nat.mul_one], .inr ⟨w.heap.size, _, _, _, by rw [hlb], Nat.zero_le _, heap_alloc_new w.drew _, .inl rfl, by rw [hlb]; exact hgc, hgm, ?_, ?_⟩⟩, bcs_one _, fun i q hi hq => ?_⟩
      ·refine Nat.le_of_eq (Eq.symm ?_)
       rw [Array.size_append, List.size_toArray, size_zeroCells, hcl]
       show sb.size + (_ - _) * 1 = _
       omega
      ·rw [hlb, Array.toList_append, Nat.mul_one, ← hcl]; exact List.take_left
      ·obtain rfl : q = 0 := by omega
       rw [show i * 1 + 0 = i by omega]
       exact hrep _ _ i (by rw [hlb] at hi; exact hi)
   ·rw [h2] at hιj ho'
    have hhere : ∃ cur fr, w.heap[g]? = some (.cells cur e' fr) ∧ thaw fr cur.size ∧ cap ≤ maxLen ∧ cap * 1 ≤ cur.size ∧ cur.toList.take (xs.length * 1) = cells := by
     rcases ho'.2 with ⟨q, _⟩ | ⟨g', cap', cur, fr, q, _, q2, q3, _, q4, q5, q6⟩
     ·cases q
     ·cases q; exact ⟨cur, fr, q2, q3, q4, q5, q6⟩
    obtain ⟨cur, fr, hg, hth, hcm, hcs, htake⟩ := hhere
    have hcll : cells.length = xs.length := by rw [ho'.1, Nat.mul_one]
    have hux' : ∀ u, u ∈ xs ++ Ω .bcl sb → u.cells.length = 1 := fun u hu => by
     rcases List.mem_append.1 hu with q | q
     ·exact hux u q
     ·exact bcs_one _ u q
    have hall : ∀ (imm' : Nat → Prop) (w' : World), (∀ g', imm g' → imm' g' ∧ w'.heap[g']? = w.heap[g']?) → ∀ i q, i < (xs ++ Ω .bcl sb).length → q < 1 → RepC imm' w' (((xs ++ Ω .bcl sb).getD i .np).cells.getD q .np) ((cells ++ Lib.strCells sb).getD (i * 1 + q) undef) := fun imm' w' hm i q hi hq => by
     obtain rfl : q = 0 := by omega
     rw [show i * 1 + 0 = i by omega]
     by_cases c : i < xs.length
     ·have e1 : (xs ++ Ω .bcl sb).getD i .np = xs.getD i .np := by simp [List.getD_eq_getElem?_getD, List.getElem?_append_left c]
      have e2 : (cells ++ Lib.strCells sb).getD i undef = cells.getD i undef := by simp [List.getD_eq_getElem?_getD, List.getElem?_append_left (show i < cells.length by omega)]
      rw [e1, e2]
      have := (hcx i 0 c Nat.one_pos).mono hm
      rw [show i * 1 + 0 = i by omega] at this
      exact this
     ·have e1 : (xs ++ Ω .bcl sb).getD i .np = (Ω .bcl sb).getD (i - xs.length) .np := by simp [List.getD_eq_getElem?_getD, List.getElem?_append_right (show xs.length ≤ i by omega)]
      have e2 : (cells ++ Lib.strCells sb).getD i undef = (Lib.strCells sb).getD (i - xs.length) undef := by simp [List.getD_eq_getElem?_getD, List.getElem?_append_right (show cells.length ≤ i by omega), hcll]
      rw [e1, e2]
      exact hrep _ _ _ (by rw [List.length_append, hlb] at hi; omega)
    by_cases hfits : xs.length + sb.size ≤ cap
    ·have hr := run_append_str_thaw (P := P) w T U o.type e' info hT.und hUs i1 i2 g xs.length cap cur fr hg hth sb hfits (by omega)
     have hmono : ∀ g', imm g' → imm g' ∧ (w.setRow g (cur.toList.take xs.length ++ Lib.strCells sb ++ cur.toList.drop (xs.length + sb.size)).toArray).heap[g']? = w.heap[g']? := fun g' hg' =>
      ⟨hg', setRow_other w g g' _ (fun q => by subst q; exact I.own g' ⟨j, _, _, hj, rfl, hιj, rfl⟩ hg')⟩
     have st := I.moved hj rfl hιj rfl hid (v := .slice (some ⟨g, 0, none⟩) (xs.length + sb.size) cap) (B := .row true e' 1 (xs ++ Ω .bcl sb))
      (w' := w.setRow g (cur.toList.take xs.length ++ Lib.strCells sb ++ cur.toList.drop (xs.length + sb.size)).toArray) (by simp)
      (fun k _ hk => setRow_other w g k _ (fun q => by subst q; exact hk rfl)) rfl rfl rfl rfl ?_
     ·exact ⟨_, _, _, _, imm, .inl (fin _ _ (by rw [h2, h2b]; exact hr)), hK, st.2, st.1, ⟨upd_same _ _ _, .inr ⟨_, _, _, rfl⟩⟩⟩
     ·refine ⟨cells ++ Lib.strCells sb, ⟨?_, .inr ⟨g, cap, _, fr, ?_, Nat.zero_le _, setRow_heap w g cur _ e' _ hg, ?_, ?_, hcm, ?_, ?_⟩⟩, hux', hall imm _ hmono⟩
      ·rw [List.length_append, List.length_append, hlb, hcl, hcll, Nat.mul_one]
      ·rw [List.length_append, hlb]
      ·have es : (cur.toList.take xs.length ++ Lib.strCells sb ++ cur.toList.drop (xs.length + sb.size)).toArray.size = cur.size := by
        simp only [List.size_toArray, List.length_append, List.length_take, List.length_drop, Array.length_toList, hcl]; omega
       rw [es]; exact hth
      ·rw [List.length_append, hlb]; exact hfits
      ·simp only [List.size_toArray, List.length_append, List.length_take, List.length_drop, Array.length_toList, hcl]; omega
      ·have ht2 : cur.toList.take xs.length = cells := by rw [← htake, Nat.mul_one]
       have : (xs ++ Ω .bcl sb).length * 1 = (cells ++ Lib.strCells sb).length := by rw [List.length_append, List.length_append, hlb, hcl, hcll, Nat.mul_one]
       rw [ht2, this]
       exact List.take_left
    ·have holds : ∀ k v, cells[k]? = some v → w.cell? ((⟨g, 0, none⟩ : Addr).add k) = some v := fun k v q => by
      rw [addr_add, Nat.zero_add]
      rw [← htake, List.getElem?_take] at q
      split at q
      ·rw [cell_of_row w g k cur e' fr hg]; simpa using q
      ·cases q
     have hr := Lib.run_append_grow_string (P := P) w T U o.type e' info (.int .u8 0) hT.und hUs i1 i4 ⟨g, 0, none⟩ xs.length cap cells (by rw [i2]; show _ = _ * 1; omega) holds sb (by omega) (by omega) (growslice_fits (by omega) (by rw [i3]; show _ * 1 ≤ _; omega))
     have hgc := grownCap_ge w (xs.length + sb.size) cap e'
     have hgm : grownCap w (xs.length + sb.size) cap e' ≤ maxLen := grownCap_le_maxLen w _ _ e' (by simp only [maxLen]; omega)
     have st := g1.1.fresh hid2 (.slice (some ⟨w.heap.size, 0, none⟩) (xs.length + sb.size) (grownCap w (xs.length + sb.size) cap e')) (.row true e' 1 (xs ++ Ω .bcl sb))
      (w' := w.drew.alloc (.cells (cells.toArray ++ (Lib.strCells sb).toArray ++ Builtin.zeroCells (Value.int .u8 0).cells (grownCap w (xs.length + sb.size) cap e' - (xs.length + sb.size))) e')) (by simp)
      (fun g hg => heap_alloc_old w.drew _ g hg) rfl rfl rfl (fun g hg => by cases hg; exact Nat.le_refl _) ?_
     ·exact ⟨_, _, _, _, imm, .inl (fin _ _ (by rw [h2, h2b]; exact hr)), hK, g1.2.trans st.2, st.1, ⟨upd_same _ _ _, .inr ⟨_, _, _, rfl⟩⟩⟩
     ·refine ⟨cells ++ Lib.strCells sb, ⟨?_, .inr ⟨w.heap.size, _, _, _, ?_, Nat.zero_le _, heap_alloc_new w.drew _, .inl rfl, ?_, hgm, ?_, ?_⟩⟩, hux', hall imm _ (fun g' hg' => ⟨hg', heap_alloc_old w.drew _ g' (I.lt g' hg')⟩)⟩
      ·rw [List.length_append, List.length_append, hlb, hcl, hcll, Nat.mul_one]
      ·rw [List.length_append, hlb]
      ·rw [List.length_append, hlb]; exact hgc
      ·refine Nat.le_of_eq (Eq.symm ?_)
       rw [Array.size_append, Array.size_append, List.size_toArray, List.size_toArray, size_zeroCells, hcl, hcll]
       show _ + _ + (_ - _) * 1 = _
       omega
      ·have : (xs ++ Ω .bcl sb).length * 1 = (cells ++ Lib.strCells sb).length := by rw [List.length_append, List.length_append, hlb, hcl, hcll, Nat.mul_one]
       rw [this, Array.toList_append, Array.toList_append]
       exact List.take_left
  ·exact hK.elim
 ·exact hK.elim
variable (I : Inv ι imm h w) (tt : TTok P E.tt) (he : ∀ x, RepV ι imm w (ev x) (ρ x))
include I tt he
theorem op_append {args : Array Operand} {ts : Array TypeId} (ho : o.op = .call { callee := .builtin .append, args := args, argTypes := ts }) (hK : opR Ω E draw ev h o.op id K) : Done ι imm h w K ((execOp ρ o).run P w) := by
 rw [ho] at hK
 simp only [opR, w_slen, w_sget, w_ssub, w_sset, w_srep, w_scat, BrG_eq, DK_eq, w_ci, w_iand, w_ior, w_ixor, w_ishl, w_ishr, w_wrap, w_tmod, w_lt, w_le, w_eq, w_ne, w_ile, w_ilt, w_tn, w_nadd, w_nsub, w_nlt, w_leb, w_room, w_imax, w_imin, w_bget, w_bext, w_bcat, w_bsz, w_beqs] at hK
 split at hK
 ·rename_i hb _ _; cases hb
 ·rename_i x y T U _ ha hts
  obtain ⟨a, b, rfl, rfl, rfl⟩ := args_two ha
  obtain rfl := types_two hts
  have h1 := he a
  have h1b := he b
  split at hK
  ·rename_i s1 s2 s3 e ht
   have hT := tt _ _ ht
   split at hK
   ·rename_i size bytes z und hte
    have hE := tt _ _ hte
    split at hK
    ·rename_i sb hsb
     exact append_str I tt ho hT hE h1 (by rw [strOf_some hsb] at h1b; exact repS h1b) hK
    obtain ⟨rfl, hzl, hpos, hK⟩ := hK
    split at hK
    ·rename_i ys hy
     obtain ⟨hid, huy, hK⟩ := hK
     obtain ⟨info, i1, i2, i3, i4⟩ := hE.ok
     have hzs := (hE.zero z rfl).1
     have hsz : info.size = size := i2
     have hby : info.bytes = bytes := i3
     obtain ⟨imm1, I1, E1⟩ := Inv.freezeL (idsOf (ev b)) I
     have hrep := toD_rep I1 (fun i hi l e z xs hx => freezeL_done h _ i hi l e z xs hx) (h1b.evo I E1) hy
     have hbv : ∃ ba c, ρ b = .slice ba ys.length c ∧ RepC imm1 w (.sl ys) (.slice ba ys.length c) := by
      have hrep' : RepV ι imm1 w (.d (.sl ys)) (ρ b) := hrep
      obtain ⟨ba, c, q1, q2⟩ := repSl hrep'
      exact ⟨ba, c, q1, q2⟩
     obtain ⟨ba, c, hb1, hb2⟩ := hbv
     have hid1 : ups h (freezeL h (idsOf (ev b))) id = none := by
      rcases freezeL_same h (idsOf (ev b)) id with q | ⟨l', e', z', xs', q1, q2⟩
      ·exact q.trans hid
      ·rw [hid] at q1; cases q1
     have fin : ∀ v, (Builtin.append_ #[T, T] o.type #[ρ a, ρ b]).run P w = .ok v w → (execOp ρ o).run P w = .ok (.value v) w := fun v hr => by
      simp [execOp, ho, resolve, invoke, builtin, hr]
     have fin' : ∀ v w', (Builtin.append_ #[T, T] o.type #[ρ a, ρ b]).run P w = .ok v w' → (execOp ρ o).run P w = .ok (.value v) w' := fun v w' hr => by
      simp [execOp, ho, resolve, invoke, builtin, hr]
     split at hK
     ·-- onto nil
      rename_i hx
      rw [hx] at h1
      have h2 : ρ a = .slice none 0 0 := h1
      obtain ⟨⟨hbytes, hlen⟩, hK⟩ := hK
      have hbytes' := hbytes
      by_cases hne : ys = []
      ·subst hne
       have hr := run_append_nothing (w := w) (ty := o.type) hT.und i1 none ba 0 0 c (Nat.le_refl _)
       have st := I1.fresh hid1 (.slice none 0 0) (.row true e size []) (w' := w) (Nat.le_refl _) (fun _ _ => rfl) rfl rfl rfl (fun g hg => by cases hg)
        ⟨[], rowOwn_nil w 0 e size, fun _ q => absurd q List.not_mem_nil, fun _ _ q => absurd q (Nat.not_lt_zero _)⟩
       refine ⟨_, _, _, _, imm1, .inl (fin _ (by rw [h2, hb1]; exact hr)), hK, E1.trans st.2, st.1, ⟨upd_same _ _ _, .inl rfl⟩⟩
      ·obtain ⟨ad, news, rfl, _, hnl, hnews, hone, hcell⟩ := src_cells hb2 huy hpos hne
       have hpl : 0 < ys.length := List.length_pos_iff.2 hne
       have hr := run_append_nil (P := P) w T o.type e info z hT.und i1 i4 ad ys.length c news (by rw [hsz]; exact hnl) hnews hpl (by omega) (by rw [hby]; omega)
       have hgc := grownCap_ge w ys.length 0 e
       have hgm : grownCap w ys.length 0 e ≤ maxLen := grownCap_le_maxLen w _ _ e (by simp only [maxLen]; omega)
       have st := I1.fresh hid1 (.slice (some ⟨w.heap.size, 0, none⟩) ys.length (grownCap w ys.length 0 e)) (.row true e size ys)
        (w' := w.drew.alloc (.cells (news.toArray ++ Builtin.zeroCells z.cells (grownCap w ys.length 0 e - ys.length)) e)) (by simp)
        (fun g hg => heap_alloc_old w.drew _ g hg) rfl rfl rfl (fun g hg => by cases hg; exact Nat.le_refl _) ?_
       ·exact ⟨_, _, _, _, imm1, .inl (fin' _ _ (by rw [h2, hb1]; exact hr)), hK, E1.trans st.2, st.1, ⟨upd_same _ _ _, .inr ⟨_, _, _, rfl⟩⟩⟩
       ·refine ⟨news, ⟨hnl, .inr ⟨w.heap.size, _, _, _, rfl, Nat.zero_le _, heap_alloc_new w.drew _, .inl rfl, hgc, hgm, ?_, ?_⟩⟩, huy, fun i j hi hj => RepC.mono (w := w) (fun g hg => ⟨hg, heap_alloc_old w.drew _ g (I1.lt g hg)⟩) (hcell i j hi hj)⟩
        ·refine Nat.le_of_eq (Eq.symm ?_)
         rw [Array.size_append, List.size_toArray, size_zeroCells, hnl, hzs, ← Nat.add_mul]
         congr 1; omega
        ·rw [Array.toList_append, ← hnl]; exact List.take_left
     ·-- onto the call's own
      rename_i j sz hx
      rw [hx] at h1
      split at hK
      ·rename_i e' z' xs hj
       obtain ⟨rfl, rfl, ⟨hbytes, hlen⟩, hnj, hK⟩ := hK
       have hj1 : ups h (freezeL h (idsOf (ev b))) j = some (.row true e' z' xs) := (freezeL_other h _ j hnj).trans hj
       have h1' : RepV ι imm1 w (.own j sz) (ρ a) := h1.evo I E1
       obtain ⟨hιj, hblk, hform⟩ := own_form I1 hj1 h1'
       obtain ⟨cells, ho', hux, hcx⟩ := hblk
       have hinv : BlkRep ι imm1 w (.row true e' z' xs) (ρ a) := ⟨cells, ho', hux, hcx⟩
       rcases hform with ⟨h2, hxs⟩ | ⟨g, cap, h2, hcap⟩
       ·-- it was nil
        subst hxs
        simp only [List.nil_append] at hK
        have g1 := I1.giveUp hj1
        have hid2 : upd (ups h (freezeL h (idsOf (ev b)))) j (some Blk.dead) id = none := by
         rw [upd_other _ _ _ _ (fun q => by subst q; rw [hid1] at hj1; cases hj1)]; exact hid1
        by_cases hne : ys = []
        ·subst hne
         have hr := run_append_nothing (w := w) (ty := o.type) hT.und i1 none ba 0 0 c (Nat.le_refl _)
         have st := g1.1.fresh hid2 (.slice none 0 0) (.row true e' z' []) (w' := w) (Nat.le_refl _) (fun _ _ => rfl) rfl rfl rfl (fun g hg => by cases hg)
          ⟨[], rowOwn_nil w 0 e' z', fun _ q => absurd q List.not_mem_nil, fun _ _ q => absurd q (Nat.not_lt_zero _)⟩
         refine ⟨_, _, _, _, imm1, .inl (fin _ (by rw [h2, hb1]; exact hr)), hK, E1.trans (g1.2.trans st.2), st.1, ⟨upd_same _ _ _, .inl rfl⟩⟩
        ·obtain ⟨ad, news, rfl, _, hnl, hnews, hone, hcell⟩ := src_cells hb2 huy hpos hne
         have hpl : 0 < ys.length := List.length_pos_iff.2 hne
         have hr := run_append_nil (P := P) w T o.type e' info z hT.und i1 i4 ad ys.length c news (by rw [hsz]; exact hnl) hnews hpl (by simp at hlen; omega) (by rw [hby]; simp at hbytes; omega)
         have hgc := grownCap_ge w ys.length 0 e'
         have hgm : grownCap w ys.length 0 e' ≤ maxLen := grownCap_le_maxLen w _ _ e' (by simp only [maxLen]; simp at hlen; omega)
         have st := g1.1.fresh hid2 (.slice (some ⟨w.heap.size, 0, none⟩) ys.length (grownCap w ys.length 0 e')) (.row true e' z' ys)
          (w' := w.drew.alloc (.cells (news.toArray ++ Builtin.zeroCells z.cells (grownCap w ys.length 0 e' - ys.length)) e')) (by simp)
          (fun g hg => heap_alloc_old w.drew _ g hg) rfl rfl rfl (fun g hg => by cases hg; exact Nat.le_refl _) ?_
         ·exact ⟨_, _, _, _, imm1, .inl (fin' _ _ (by rw [h2, hb1]; exact hr)), hK, E1.trans (g1.2.trans st.2), st.1, ⟨upd_same _ _ _, .inr ⟨_, _, _, rfl⟩⟩⟩
         ·refine ⟨news, ⟨hnl, .inr ⟨w.heap.size, _, _, _, rfl, Nat.zero_le _, heap_alloc_new w.drew _, .inl rfl, hgc, hgm, ?_, ?_⟩⟩, huy, fun i j hi hj => RepC.mono (w := w) (fun g hg => ⟨hg, heap_alloc_old w.drew _ g (I1.lt g hg)⟩) (hcell i j hi hj)⟩
          ·refine Nat.le_of_eq (Eq.symm ?_)
           rw [Array.size_append, List.size_toArray, size_zeroCells, hnl, hzs, ← Nat.add_mul]
           congr 1; omega
          ·rw [Array.toList_append, ← hnl]; exact List.take_left
       ·rw [h2] at hιj ho'
        have hhere : ∃ cur fr, w.heap[g]? = some (.cells cur e' fr) ∧ thaw fr cur.size ∧ cap ≤ maxLen ∧ cap * z' ≤ cur.size ∧ cur.toList.take (xs.length * z') = cells := by
         rcases ho'.2 with ⟨q, _⟩ | ⟨g', cap', cur, fr, q, _, q2, q3, _, q4, q5, q6⟩
         ·cases q
         ·cases q; exact ⟨cur, fr, q2, q3, q4, q5, q6⟩
        obtain ⟨cur, fr, hg, hth, hcm, hcs, htake⟩ := hhere
        have hcl : cells.length = xs.length * z' := ho'.1
        have hux' : ∀ u, u ∈ xs ++ ys → u.cells.length = z' := fun u hu => by
         rcases List.mem_append.1 hu with q | q
         ·exact hux u q
         ·exact huy u q
        have hsrc : ∃ (ad : Addr) (news : List Value), (ys ≠ [] → ba = some ad) ∧ news.length = ys.length * z' ∧ (∀ j v, news[j]? = some v → w.cell? (ad.add j) = some v) ∧ (∀ u, u ∈ news → u.oneCell' = true) ∧
          ∀ i j, i < ys.length → j < z' → RepC imm1 w ((ys.getD i .np).cells.getD j .np) (news.getD (i * z' + j) undef) := by
         by_cases hne : ys = []
         ·subst hne
          exact ⟨⟨0, 0, none⟩, [], fun q => absurd rfl q, by simp, fun j v q => by simp at q, fun _ q => absurd q List.not_mem_nil, fun _ _ q => absurd q (Nat.not_lt_zero _)⟩
         ·obtain ⟨ad, news, q1, _, q3, q4, q5, q6⟩ := src_cells hb2 huy hpos hne
          exact ⟨ad, news, fun _ => q1, q3, q4, q5, q6⟩
        obtain ⟨ad, news, hba, hnl, hnews, hone, hcell⟩ := hsrc
        have hall := cells_append (w := w) (imm := imm1) hcl hcx hcell
        by_cases hroom : xs.length + ys.length ≤ cap
        ·-- there is room
         have hfit : xs.length * z' + news.length ≤ cur.size := by rw [hnl, ← Nat.add_mul]; exact Nat.le_trans (Nat.mul_le_mul_right _ hroom) hcs
         have hr : (Builtin.append_ #[T, T] o.type #[.slice (some ⟨g, 0, none⟩) xs.length cap, .slice ba ys.length c]).run P w =
           .ok (.slice (some ⟨g, 0, none⟩) (xs.length + ys.length) cap) (w.setRow g (cur.toList.take (xs.length * z') ++ news ++ cur.toList.drop (xs.length * z' + news.length)).toArray) := by
          by_cases hne : ys = []
          ·subst hne
           have hn0 : news = [] := List.eq_nil_of_length_eq_zero (by simpa using hnl)
           subst hn0
           rw [List.length_nil, run_append_nothing (w := w) hT.und i1 _ ba _ cap c hcap]
           simp only [List.append_nil, List.length_nil, Nat.add_zero, List.take_append_drop, Array.toArray_toList]
           rw [setRow_self w g cur e' fr hg]
          ·rw [hba hne]
           have := run_append_room_thaw (P := P) w T o.type e' info hT.und i1 g xs.length cap cur fr hg hth ad ys.length c news (by rw [hsz]; exact hnl) hnews hone hroom (by rw [hsz]; exact hfit)
           rw [hsz] at this
           exact this
         have hmono : ∀ g', imm1 g' → imm1 g' ∧ (w.setRow g (cur.toList.take (xs.length * z') ++ news ++ cur.toList.drop (xs.length * z' + news.length)).toArray).heap[g']? = w.heap[g']? := fun g' hg' =>
          ⟨hg', setRow_other w g g' _ (fun q => by subst q; exact I1.own g' ⟨j, _, _, hj1, rfl, hιj, rfl⟩ hg')⟩
         have st := I1.moved hj1 rfl hιj rfl hid1 (v := .slice (some ⟨g, 0, none⟩) (xs.length + ys.length) cap) (B := .row true e' z' (xs ++ ys))
          (w' := w.setRow g (cur.toList.take (xs.length * z') ++ news ++ cur.toList.drop (xs.length * z' + news.length)).toArray) (by simp)
          (fun k _ hk => setRow_other w g k _ (fun q => by subst q; exact hk rfl)) rfl rfl rfl rfl ?_
         ·exact ⟨_, _, _, _, imm1, .inl (fin' _ _ (by rw [h2, hb1]; exact hr)), hK, E1.trans st.2, st.1, ⟨upd_same _ _ _, .inr ⟨_, _, _, rfl⟩⟩⟩
         ·refine ⟨cells ++ news, ⟨?_, .inr ⟨g, cap, _, fr, ?_, Nat.zero_le _, setRow_heap w g cur _ e' _ hg, ?_, ?_, hcm, ?_, ?_⟩⟩, hux', fun i k hi hk => (hall i k hi hk).mono hmono⟩
          ·rw [List.length_append, hcl, hnl, List.length_append, Nat.add_mul]
          ·rw [List.length_append]
          ·have es : (cur.toList.take (xs.length * z') ++ news ++ cur.toList.drop (xs.length * z' + news.length)).toArray.size = cur.size := by
            simp only [List.size_toArray, List.length_append, List.length_take, List.length_drop, Array.length_toList]; omega
           rw [es]; exact hth
          ·rw [List.length_append]; exact hroom
          ·simp only [List.size_toArray, List.length_append, List.length_take, List.length_drop, Array.length_toList]; omega
          ·rw [htake, List.length_append, Nat.add_mul, ← hcl, ← hnl, ← List.length_append]
           exact List.take_left
        ·-- it grows
         have hne : ys ≠ [] := fun q => by subst q; simp at hroom; omega
         have holds : ∀ j v, cells[j]? = some v → w.cell? ((⟨g, 0, none⟩ : Addr).add j) = some v := fun k v q => by
          rw [addr_add, Nat.zero_add]
          rw [← htake, List.getElem?_take] at q
          split at q
          ·rw [cell_of_row w g k cur e' fr hg]; simpa using q
          ·cases q
         have hr := run_append_grow (P := P) w T o.type e' info z hT.und i1 i4 ⟨g, 0, none⟩ xs.length cap cells (by rw [hsz]; exact hcl) holds ad ys.length c news (by rw [hsz]; exact hnl) hnews (by omega) (by omega)
          (growslice_fits (by omega) (by rw [hby]; exact hbytes))
         have hgc := grownCap_ge w (xs.length + ys.length) cap e'
         have hgm : grownCap w (xs.length + ys.length) cap e' ≤ maxLen := grownCap_le_maxLen w _ _ e' (by simp only [maxLen]; omega)
         have g1 := I1.giveUp hj1
         have hid2 : upd (ups h (freezeL h (idsOf (ev b)))) j (some Blk.dead) id = none := by
          rw [upd_other _ _ _ _ (fun q => by subst q; rw [hid1] at hj1; cases hj1)]; exact hid1
         have st := g1.1.fresh hid2 (.slice (some ⟨w.heap.size, 0, none⟩) (xs.length + ys.length) (grownCap w (xs.length + ys.length) cap e')) (.row true e' z' (xs ++ ys))
          (w' := w.drew.alloc (.cells (cells.toArray ++ news.toArray ++ Builtin.zeroCells z.cells (grownCap w (xs.length + ys.length) cap e' - (xs.length + ys.length))) e')) (by simp)
          (fun g hg => heap_alloc_old w.drew _ g hg) rfl rfl rfl (fun g hg => by cases hg; exact Nat.le_refl _) ?_
         ·exact ⟨_, _, _, _, imm1, .inl (fin' _ _ (by rw [h2, hb1, hba hne]; exact hr)), hK, E1.trans (g1.2.trans st.2), st.1, ⟨upd_same _ _ _, .inr ⟨_, _, _, rfl⟩⟩⟩
         ·refine ⟨cells ++ news, ⟨?_, .inr ⟨w.heap.size, _, _, _, ?_, Nat.zero_le _, heap_alloc_new w.drew _, .inl rfl, ?_, hgm, ?_, ?_⟩⟩, hux', fun i k hi hk => RepC.mono (w := w) (fun g hg => ⟨hg, heap_alloc_old w.drew _ g (I1.lt g hg)⟩) (hall i k hi hk)⟩
          ·rw [List.length_append, hcl, hnl, List.length_append, Nat.add_mul]
          ·rw [List.length_append]
          ·rw [List.length_append]; exact hgc
          ·refine Nat.le_of_eq (Eq.symm ?_)
           rw [Array.size_append, Array.size_append, List.size_toArray, List.size_toArray, size_zeroCells, hcl, hnl, hzs, ← Nat.add_mul]
           show _ * z' + _ * z' = _
           rw [← Nat.add_mul]
           congr 1; omega
          ·rw [Array.toList_append, Array.toList_append, List.length_append, Nat.add_mul, ← hcl, ← hnl, ← List.length_append]
           exact List.take_left
      ·exact hK.elim
     ·exact hK.elim
    ·exact hK.elim
   ·exact hK.elim
  ·exact hK.elim
 all_goals first | exact hK.elim | contradiction
theorem op_copy {args : Array Operand} {ts : Array TypeId} (ho : o.op = .call { callee := .builtin .copy, args := args, argTypes := ts }) (hK : opR Ω E draw ev h o.op id K) : Done ι imm h w K ((execOp ρ o).run P w) := by
 rw [ho] at hK
 simp only [opR, w_slen, w_sget, w_ssub, w_sset, w_srep, w_scat, w_scpy, BrG_eq, DK_eq, w_ci, w_iand, w_ior, w_ixor, w_ishl, w_ishr, w_wrap, w_tmod, w_lt, w_le, w_eq, w_ne, w_ile, w_ilt, w_tn, w_nadd, w_nsub, w_nlt, w_leb, w_room, w_imax, w_imin, w_bget, w_bext, w_bcat, w_bsz, w_beqs] at hK
 obtain ⟨_, hK⟩ := hK
 split at hK
 ·rename_i j sz off len y T U ha hts
  obtain ⟨a, b, rfl, hx, rfl⟩ := args_two ha
  obtain rfl := types_two hts
  have h1 := he a
  have h1b := he b
  rw [hx] at h1
  split at hK
  ·rename_i s1 s2 s3 e e' z xs ys ht hj hy
   have hT := tt _ _ ht
   split at hK
   ·rename_i i hte
    have hE := tt _ _ hte
    obtain ⟨hi1, rfl, rfl, huy, hnj, hfit, hK⟩ := hK
    obtain ⟨info, i1, i2, i3, i4⟩ := hE.ok
    have hsz : (P.info? e).map (·.size) = some 1 := by rw [i1]; simp [i2, hi1]
    obtain ⟨imm1, I1, E1⟩ := Inv.freezeL (idsOf (ev b)) I
    have hrep := toD_rep I1 (fun i hi l e z xs hx => freezeL_done h _ i hi l e z xs hx) (h1b.evo I E1) hy
    obtain ⟨ba, c, hb1, hb2⟩ : ∃ ba c, ρ b = .slice ba ys.length c ∧ RepC imm1 w (.sl ys) (.slice ba ys.length c) := by
     have hrep' : RepV ι imm1 w (.d (.sl ys)) (ρ b) := hrep
     obtain ⟨ba, c, q1, q2⟩ := repSl hrep'
     exact ⟨ba, c, q1, q2⟩
    have fin' : ∀ v w', (Builtin.copy_ #[T, U] o.type #[ρ a, ρ b]).run P w = .ok v w' → (execOp ρ o).run P w = .ok (.value v) w' := fun v w' hr => by
     simp [execOp, ho, resolve, invoke, builtin, hr]
    have hj1 : ups h (freezeL h (idsOf (ev b))) j = some (.row true e' 1 xs) := (freezeL_other h _ j hnj).trans hj
    have hfit' : off + len ≤ xs.length := by simpa using hfit
    have hsl : (List.take len (List.drop 0 ys)).length = Nat.min len ys.length := by simp [Nat.min_def]
    have hmin : ((if (ys.length : Int) < (len : Int) then (ys.length : Int) else (len : Int)) : Int) = ((Nat.min ys.length len : Nat) : Int) := by
     simp only [Nat.min_def]; split <;> split <;> omega
    by_cases h0 : Nat.min ys.length len = 0
    ·-- nothing is copied
     have hz : (List.take len (List.drop 0 ys)).length = 0 := by rw [hsl]; simp only [Nat.min_def] at h0 ⊢; split <;> split at h0 <;> omega
     have hn := List.eq_nil_of_length_eq_zero hz
     have hnew : xs.take off ++ List.take len (List.drop 0 ys) ++ xs.drop (off + (List.take len (List.drop 0 ys)).length) = xs := by
      rw [hn]; simp
     rw [hnew] at hK
     have hself : upd (ups h (freezeL h (idsOf (ev b)))) j (some (.row true e' 1 xs)) = ups h (freezeL h (idsOf (ev b))) := by
      funext t; by_cases c : t = j
      ·subst c; rw [upd_same, hj1]
      ·rw [upd_other _ _ _ _ c]
     have hda : ∃ d cc, ρ a = .slice d len cc := by
      rcases h1 with ⟨g, n, cap, cc, _, q, _⟩ | ⟨_, q, base, q2⟩
      ·exact ⟨_, _, q⟩
      ·exact ⟨base, 0, by rw [q2, q]⟩
     obtain ⟨d, cc, hda⟩ := hda
     have hr := run_copy_none (P := P) w T U o.type e d ba len cc ys.length c hT.und hsz h0
     refine ⟨_, _, _, ι, imm1, .inl (fin' _ _ (by rw [hda, hb1]; exact hr)), hK, ?_, ?_, ?_⟩
     ·show Evo ι imm h w ι imm1 (upd (ups h (freezeL h (idsOf (ev b)))) j (some (.row true e' 1 xs))) w
      rw [hself]; exact E1
     ·show Inv ι imm1 (upd (ups h (freezeL h (idsOf (ev b)))) j (some (.row true e' 1 xs))) w
      rw [hself]; exact I1
     ·show RepC _ _ (.i .i64 (if (ys.length : Int) < (len : Int) then (ys.length : Int) else (len : Int))) (goInt 0)
      rw [hmin, h0]; exact .i _ _
    ·have hne : ys ≠ [] := fun q => by subst q; simp [Nat.min_def] at h0
     have hlen0 : len ≠ 0 := fun q => by subst q; simp [Nat.min_def] at h0
     rcases h1 with ⟨g, n, cap, cc, hιj, hda, hcc, hcap⟩ | ⟨_, q, _⟩
     rotate_left
     ·exact absurd q hlen0
     obtain ⟨ad, news, rfl, _, hnl, hnews, hone, hcell⟩ := src_cells hb2 huy (Nat.one_pos) hne
     obtain ⟨v', h4, cells, ho', h6, h7⟩ := I1.blk j _ hj1
     have h2' := E1.ids _ _ hιj
     rw [h2'] at h4; cases h4
     rcases ho'.2 with ⟨q, _⟩ | ⟨g', cap', cur, fr, q, hb0, h8, hth, h9, hcm, h10, h11⟩
     ·cases q
     cases q
     have hzl : (List.take len (List.drop 0 ys)).length ≤ ys.length := by rw [hsl]; exact Nat.min_le_right _ _
     have hnl' : news.length = ys.length := by rw [hnl, Nat.mul_one]
     have hcl : (news.take (List.take len (List.drop 0 ys)).length).length = (List.take len (List.drop 0 ys)).length := by rw [List.length_take]; omega
     have hzle : (List.take len (List.drop 0 ys)).length ≤ len := by rw [hsl]; exact Nat.min_le_left _ _
     have hcur : xs.length ≤ cur.size := by omega
     have hmm : (List.take len (List.drop 0 ys)).length = Nat.min ys.length len := by rw [hsl]; exact Nat.min_comm _ _
     have hr := run_copy_row_thaw (P := P) w T U o.type e g (off * 1) len cc ad ys.length c cur e' (news.take (List.take len (List.drop 0 ys)).length) fr hT.und hsz h8 hth
      (by rw [hcl, hmm]) (fun k v q => hnews k v (by rw [List.getElem?_take] at q; split at q; exact q; cases q)) (by rw [hcl]; omega) (fun v q => hone v (List.mem_of_mem_take q))
     have hcx : ∀ i, i < xs.length → RepC imm1 w ((xs.getD i .np).cells.getD 0 .np) (cur.toList.getD i undef) := fun i hi => by
      have h := h7 i 0 hi (Nat.one_pos)
      have e2 : cells.getD (i * 1 + 0) undef = cur.toList.getD i undef := by
       rw [← h11]; simp [List.getD, hi]
      rw [← e2]; exact h
     have hcz : ∀ i, i < (List.take len (List.drop 0 ys)).length → RepC imm1 w (((List.take len (List.drop 0 ys)).getD i .np).cells.getD 0 .np) ((news.take (List.take len (List.drop 0 ys)).length).getD i undef) := fun i hi => by
      have h := hcell i 0 (by omega) (Nat.one_pos)
      have hi' : i < len := by omega
      have e1 : (List.take len (List.drop 0 ys)).getD i .np = ys.getD i .np := by simp [List.getD, hi']
      have e2 : (news.take (List.take len (List.drop 0 ys)).length).getD i undef = news.getD (i * 1 + 0) undef := by
       rw [List.getD_eq_getElem?_getD, List.getElem?_take, if_pos hi, List.getD_eq_getElem?_getD, Nat.mul_one, Nat.add_zero]
      rw [e1, e2]; exact h
     have hall := row_copy (w := w) (imm := imm1) (xs := xs) (zs := List.take len (List.drop 0 ys)) (cur := cur.toList) (off := off) (by omega) (by simpa using hcur) hcl hcx hcz
     rw [Nat.mul_one, hcl] at hr
     have hmono : ∀ g', imm1 g' → imm1 g' ∧ (w.setRow g (cur.toList.take off ++ news.take (List.take len (List.drop 0 ys)).length ++ cur.toList.drop (off + (List.take len (List.drop 0 ys)).length)).toArray).heap[g']? = w.heap[g']? := fun g' hg' =>
      ⟨hg', setRow_other w g g' _ (fun e'' => by subst e''; exact I1.own g' ⟨j, _, _, hj1, rfl, h2', rfl⟩ hg')⟩
     have hlen : (xs.take off ++ List.take len (List.drop 0 ys) ++ xs.drop (off + (List.take len (List.drop 0 ys)).length)).length = xs.length := by
      rw [List.length_append, List.length_append, List.length_drop, List.length_take]
      omega
     have st := I1.wrote hj1 rfl h2' (B := .row true e' 1 (xs.take off ++ List.take len (List.drop 0 ys) ++ xs.drop (off + (List.take len (List.drop 0 ys)).length)))
      (w' := w.setRow g (cur.toList.take off ++ news.take (List.take len (List.drop 0 ys)).length ++ cur.toList.drop (off + (List.take len (List.drop 0 ys)).length)).toArray) (by simp)
      (fun g' hg' => setRow_other w g g' _ (fun e'' => by subst e''; exact hg' rfl)) rfl rfl rfl ?_
     ·refine ⟨_, _, _, ι, imm1, .inl (fin' _ _ (by rw [hda, hb1, Nat.mul_one]; exact hr)), hK, E1.trans st.2, st.1, ?_⟩
      show RepC _ _ (.i .i64 (if (ys.length : Int) < (len : Int) then (ys.length : Int) else (len : Int))) (goInt _)
      rw [hmin, hmm]; exact .i _ _
     ·refine ⟨(cur.toList.take off ++ news.take (List.take len (List.drop 0 ys)).length ++ cur.toList.drop (off + (List.take len (List.drop 0 ys)).length)).take (xs.length * 1), ⟨?_, .inr ⟨g, cap, _, fr, ?_, Nat.zero_le _, setRow_heap w g cur _ e' _ h8, ?_, ?_, hcm, ?_, ?_⟩⟩, ?_, ?_⟩
      ·have hcul : cur.toList.length = cur.size := Array.length_toList
       rw [hlen, List.length_take, List.length_append, List.length_append, List.length_drop, List.length_take, hcl]; omega
      ·rw [hlen]
      ·have hcul : cur.toList.length = cur.size := Array.length_toList
       have es : (cur.toList.take off ++ news.take (List.take len (List.drop 0 ys)).length ++ cur.toList.drop (off + (List.take len (List.drop 0 ys)).length)).toArray.size = cur.size := by
        rw [List.size_toArray, List.length_append, List.length_append, List.length_drop, List.length_take, hcl]; omega
       rw [es]; exact hth
      ·rw [hlen]; exact h9
      ·have hcul : cur.toList.length = cur.size := Array.length_toList
       rw [List.size_toArray, List.length_append, List.length_append, List.length_drop, List.length_take, hcl]; omega
      ·rw [hlen]
      ·intro x hx
       rcases List.mem_append.1 hx with hx | hx
       ·rcases List.mem_append.1 hx with hx | hx
        ·exact h6 x (List.mem_of_mem_take hx)
        ·exact huy x (List.mem_of_mem_drop (List.mem_of_mem_take hx))
       ·exact h6 x (List.mem_of_mem_drop hx)
      ·intro a b ha hb
       rw [hlen] at ha
       obtain rfl : b = 0 := by omega
       have := (hall a ha).mono hmono
       have e3 : ((cur.toList.take off ++ news.take (List.take len (List.drop 0 ys)).length ++ cur.toList.drop (off + (List.take len (List.drop 0 ys)).length)).take (xs.length * 1)).getD (a * 1 + 0) undef =
         (cur.toList.take off ++ news.take (List.take len (List.drop 0 ys)).length ++ cur.toList.drop (off + (List.take len (List.drop 0 ys)).length)).getD a undef := by
        rw [List.getD_eq_getElem?_getD, List.getElem?_take, if_pos (by omega), List.getD_eq_getElem?_getD, Nat.mul_one, Nat.add_zero]
       rw [e3]
       exact this
   ·exact hK.elim
  ·exact hK.elim
 ·exact hK.elim
end
end Go.K
end
section
namespace Go.K
open Go
theorem foldl_set_list (off : Nat) : ∀ (l : List Value) (k : Nat) (cs : Array Value),
  ((l.zipIdx k).foldl (fun cs (x : Value × Nat) => cs.setIfInBounds (off + x.2) x.1) cs).size = cs.size ∧
  ∀ m, ((l.zipIdx k).foldl (fun cs (x : Value × Nat) => cs.setIfInBounds (off + x.2) x.1) cs).getD m undef =
   if off + k ≤ m ∧ m < off + k + l.length ∧ m < cs.size then l.getD (m - (off + k)) undef else cs.getD m undef
 | [], k, cs => by
  refine ⟨rfl, fun m => ?_⟩
  rw [if_neg (by simp; omega)]
  rfl
 | a :: r, k, cs => by
  obtain ⟨h1, h2⟩ := foldl_set_list off r (k + 1) (cs.setIfInBounds (off + k) a)
  simp only [List.zipIdx_cons, List.foldl_cons]
  refine ⟨by rw [h1]; simp, fun m => ?_⟩
  rw [h2]
  have hs : (cs.setIfInBounds (off + k) a).size = cs.size := by simp
  rw [hs]
  by_cases c : off + (k + 1) ≤ m ∧ m < off + (k + 1) + r.length ∧ m < cs.size
  ·rw [if_pos c, if_pos ⟨by omega, by simp; omega, by omega⟩]
   have : m - (off + k) = (m - (off + (k + 1))) + 1 := by omega
   rw [this]; rfl
  ·rw [if_neg c]
   by_cases d : m = off + k ∧ m < cs.size
   ·obtain ⟨rfl, d⟩ := d
    rw [if_pos ⟨Nat.le_refl _, by simp, d⟩, Nat.sub_self]
    simp [Array.getD, d]
   ·rw [if_neg (by simp; omega)]
    simp only [Array.getD_eq_getD_getElem?, Array.getElem?_setIfInBounds]
    by_cases q : off + k = m
    ·subst q
     have : ¬ off + k < cs.size := fun x => d ⟨rfl, x⟩
     simp [this]
    ·simp [q]
theorem foldl_set (off : Nat) (vs : Array Value) (cs : Array Value) :
  (vs.zipIdx.foldl (fun cs (x : Value × Nat) => cs.setIfInBounds (off + x.2) x.1) cs).size = cs.size ∧
  ∀ m, (vs.zipIdx.foldl (fun cs (x : Value × Nat) => cs.setIfInBounds (off + x.2) x.1) cs).getD m undef =
   if off ≤ m ∧ m < off + vs.size ∧ m < cs.size then vs.getD (m - off) undef else cs.getD m undef := by
 have e : vs.zipIdx.foldl (fun cs (x : Value × Nat) => cs.setIfInBounds (off + x.2) x.1) cs = (vs.toList.zipIdx 0).foldl (fun cs (x : Value × Nat) => cs.setIfInBounds (off + x.2) x.1) cs := by
  rw [← Array.foldl_toList, Array.toList_zipIdx]
 obtain ⟨h1, h2⟩ := foldl_set_list off vs.toList 0 cs
 rw [e]
 refine ⟨h1, fun m => ?_⟩
 rw [h2]
 simp only [Nat.add_zero, Array.length_toList]
 have : vs.toList.getD (m - off) undef = vs.getD (m - off) undef := by simp [List.getD, Array.getD_eq_getD_getElem?]
 rw [this]
section
variable {ι : Nat → Option Value} {imm : Nat → Prop} {h : Heap} {w : World} {K : Out → Prop}
variable {P : Program} {E : Env} {draw : Bool} {ev : Operand → V} {ρ : Operand → Value} {o : Oper} {id : Nat}
theorem fill_rep (he : ∀ x, RepV ι imm w (ev x) (ρ x)) (place : Nat → Option (Nat × Nat)) : ∀ (ps : List (Nat × Operand)) (cv : List V) (cw : Array Value) (out : List V), cw.size = cv.length →
  (∀ j, j < cv.length → RepV1 ι imm w (cv.getD j .junk) (cw.getD j undef) ∧ (cw.getD j undef).oneCell' = true) → fillV place cv (ps.map fun p => (p.1, ev p.2)) = some out →
  ∃ cw', Instr.fill place cw (ps.map fun p => (p.1, ρ p.2)) = some cw' ∧ cw'.size = out.length ∧ ∀ j, j < out.length → RepV1 ι imm w (out.getD j .junk) (cw'.getD j undef) ∧ (cw'.getD j undef).oneCell' = true
 | [], cv, cw, out, hs, hc, ho => by
  cases ho
  exact ⟨cw, rfl, hs, hc⟩
 | (i, x) :: r, cv, cw, out, hs, hc, ho => by
  simp only [List.map_cons, fillV] at ho
  split at ho
  ·cases ho
  ·rename_i off size hp
   split at ho
   ·rename_i l hl
    split at ho
    ·rename_i hfit
     obtain ⟨c1, c2⟩ := cells_rep (he x) hl
     obtain ⟨f1, f2⟩ := foldl_set off (ρ x).cells cw
     have hlen : (cv.take off ++ l ++ cv.drop (off + l.length)).length = cv.length := by simp; omega
     have key := fill_rep he place r (cv.take off ++ l ++ cv.drop (off + l.length)) _ out (f1.trans (hs.trans hlen.symm)) (fun j hj => ?_) ho
     ·obtain ⟨cw', k1, k2⟩ := key
      refine ⟨cw', ?_, k2⟩
      simp only [List.map_cons, Instr.fill, hp]
      have hcond : ¬ ((decide ((ρ x).cells.size ≠ size) || decide (off + (ρ x).cells.size > cw.size)) = true) := by
       have e1 : (ρ x).cells.size = size := by omega
       have e2 : ¬ off + (ρ x).cells.size > cw.size := by omega
       simp [e1]; omega
      rw [if_neg hcond]
      exact k1
     ·rw [hlen] at hj
      rw [f2]
      have l1 : (cv.take off).length = off := by simp; omega
      have ea : (cv.take off ++ l ++ cv.drop (off + l.length)).getD j .junk = if j < off then cv.getD j .junk else if j < off + l.length then l.getD (j - off) .junk else cv.getD j .junk := by
       simp only [List.getD_eq_getElem?_getD, List.getElem?_append, l1, List.length_append, List.getElem?_take, List.getElem?_drop]
       by_cases a : j < off
       ·have : j < off + l.length := by omega
        simp [a, this]
       ·by_cases b : j < off + l.length
        ·simp [a, b]
        ·have e : off + l.length + (j - (off + l.length)) = j := by omega
         simp [a, b, e]
      rw [ea]
      by_cases a : j < off
      ·rw [if_pos a, if_neg (by omega)]; exact hc j hj
      ·rw [if_neg a]
       by_cases b : j < off + l.length
       ·rw [if_pos b, if_pos ⟨by omega, by omega, by omega⟩]; exact c2 (j - off) (by omega)
       ·rw [if_neg b, if_neg (by omega)]; exact hc j hj
    ·cases ho
   ·cases ho
variable (I : Inv ι imm h w) (tt : TTok P E.tt) (he : ∀ x, RepV ι imm w (ev x) (ρ x))
theorem places_ok (tt : TTok P E.tt) : ∀ (fs : List Field) (pl : List (Nat × Nat)), places E.tt fs = some pl → fs.mapM (fun f => (P.info? f.type).map fun i => (f.offset, i.size)) = some pl
 | [], pl, h => by cases h; rfl
 | f :: r, pl, h => by
  simp only [places] at h
  split at h
  ·rename_i i l hi hl
   cases h
   obtain ⟨info, h1, h2, _⟩ := (tt _ _ hi).ok
   have ih := places_ok tt r l hl
   simp [List.mapM_cons, h1, h2, ih]
  ·cases h
include I tt he
theorem op_build {T : TypeId} {parts : Array (Nat × Operand)} (ho : o.op = .build T parts) (hK : opR Ω E draw ev h o.op id K) : Done ι imm h w K ((execOp ρ o).run P w) := by
 rw [ho] at hK
 simp only [opR, w_slen, w_sget, w_ssub, w_sset, w_srep, w_scat, BrG_eq, DK_eq, w_ci, w_iand, w_ior, w_ixor, w_ishl, w_ishr, w_wrap, w_tmod, w_lt, w_le, w_eq, w_ne, w_ile, w_ilt, w_tn, w_nadd, w_nsub, w_nlt, w_leb, w_room, w_imax, w_imin, w_bget, w_bext, w_bcat, w_bsz, w_beqs] at hK
 have fin : ∀ cells : Array Value, P.built T (parts.toList.map fun p => (p.1, ρ p.2)) = some cells → (execOp ρ o).run P w = .ok (.value (.agg cells)) w := fun cells hb => by
  have := run_build (P := P) w T (parts.map fun (i, x) => (i, ρ x)) cells (by simpa using hb)
  simp only [execOp, ho, Sem.run_bind, this, Result.andThen_ok, Sem.run_pure]
 split at hK
 ·rename_i sz by' z fs ht
  have hT := tt _ _ ht
  split at hK
  ·rename_i pl l hpl hl
   split at hK
   ·rename_i cs hcs
    obtain ⟨c1, c2⟩ := cells_rep (constV_rep ι imm w z) hl
    obtain ⟨cw', k1, k2, k3⟩ := fill_rep he _ _ l z.cells cs c1 c2 hcs
    obtain ⟨info, i1, _, _, i4⟩ := hT.ok
    refine Done.val I (fin cw' ?_) hK (shape_rep k2 k3)
    have hu := hT.und
    simp only [Program.built, i1, hu, i4, places_ok tt _ _ hpl]
    have : (fun (x : Nat) => pl.toArray[x]?) = fun (i : Nat) => pl[i]? := by funext i; simp
    rw [this]
    exact k1
   ·exact hK.elim
  ·exact hK.elim
 ·rename_i sz by' z n e ht
  have hT := tt _ _ ht
  split at hK
  ·rename_i i l hi hl
   have hj := tt _ _ hi
   split at hK
   ·rename_i cs hcs
    obtain ⟨c1, c2⟩ := cells_rep (constV_rep ι imm w z) hl
    obtain ⟨cw', k1, k2, k3⟩ := fill_rep he _ _ l z.cells cs c1 c2 hcs
    obtain ⟨info, i1, _, _, i4⟩ := hT.ok
    obtain ⟨infoe, j1, j2, _, _⟩ := hj.ok
    refine Done.val I (fin cw' ?_) hK (shape_rep k2 k3)
    have hu := hT.und
    simp only [Program.built, i1, hu, i4, j1, j2]
    exact k1
   ·exact hK.elim
  ·exact hK.elim
 ·exact hK.elim
end
end Go.K
end
section
namespace Go.K
open Go
section
variable {ι : Nat → Option Value} {imm : Nat → Prop} {h : Heap} {w : World} {K : Out → Prop}
variable {P : Program} {E : Env} {draw : Bool} {ev : Operand → V} {ρ : Operand → Value} {o : Oper} {id : Nat}
theorem fill_dense {size : Nat} : ∀ (ps : List (Nat × Operand)) (xs : List D) (k : Nat) (cw : Array Value), ps.length = xs.length → (∀ i, i < ps.length → (ps.getD i (0, .const undef)).1 = k + i) →
  (∀ i, i < ps.length → RepD imm w (xs.getD i .np) (ρ (ps.getD i (0, .const undef)).2) ∧ (xs.getD i .np).cells.length = size) → (k + ps.length) * size ≤ cw.size →
  ∃ cw', Instr.fill (fun i => some (i * size, size)) cw (ps.map fun p => (p.1, ρ p.2)) = some cw' ∧ cw'.size = cw.size ∧ (∀ m, m < k * size → cw'.getD m undef = cw.getD m undef) ∧
   ∀ i j, i < xs.length → j < size → RepC imm w ((xs.getD i .np).cells.getD j .np) (cw'.getD ((k + i) * size + j) undef)
 | [], xs, k, cw, hl, _, _, _ => by
  have : xs = [] := List.eq_nil_of_length_eq_zero hl.symm
  subst this
  exact ⟨cw, rfl, rfl, fun _ _ => rfl, fun i j hi => absurd hi (Nat.not_lt_zero _)⟩
 | (i, x) :: r, [], k, cw, hl, _, _, _ => by cases hl
 | (i, x) :: r, y :: ys, k, cw, hl, hk, hr, hfit => by
  have hi : i = k := by simpa using hk 0 (by simp)
  subst hi
  obtain ⟨h1, h2⟩ := hr 0 (by simp)
  have h1' : RepD imm w y (ρ x) := h1
  have h2' : y.cells.length = size := h2
  obtain ⟨c1, c2⟩ := repD_cells h1'
  obtain ⟨f1, f2⟩ := foldl_set (i * size) (ρ x).cells cw
  have hmul : (i + 1) * size = i * size + size := by rw [Nat.add_mul, Nat.one_mul]
  have hfit' : (i + 1 + r.length) * size ≤ cw.size := by simpa [Nat.add_assoc, Nat.add_comm 1] using hfit
  have hge : (i + 1) * size ≤ cw.size := Nat.le_trans (Nat.mul_le_mul_right _ (by omega)) hfit'
  obtain ⟨cw', k1, k2, k3, k4⟩ := fill_dense r ys (i + 1) ((ρ x).cells.zipIdx.foldl (fun cs (x : Value × Nat) => cs.setIfInBounds (i * size + x.2) x.1) cw) (by simpa using hl)
   (fun j hj => by have := hk (j + 1) (by simpa using hj); simpa [Nat.add_assoc, Nat.add_comm 1] using this) (fun j hj => by simpa using hr (j + 1) (by simpa using hj)) (by rw [f1]; exact hfit')
  refine ⟨cw', ?_, k2.trans f1, fun m hm => ?_, fun a b ha hb => ?_⟩
  ·simp only [List.map_cons, Instr.fill]
   have hcond : ¬ ((decide ((ρ x).cells.size ≠ size) || decide (i * size + (ρ x).cells.size > cw.size)) = true) := by
    have e1 : (ρ x).cells.size = size := by omega
    have e2 : ¬ i * size + size > cw.size := by omega
    simp [e1]; omega
   rw [if_neg hcond]
   exact k1
  ·rw [k3 m (by omega), f2, if_neg (by omega)]
  ·cases a with
   | zero =>
    have hb' : b < y.cells.length := by omega
    rw [Nat.add_zero, k3 _ (by omega), f2, if_pos ⟨by omega, by omega, by omega⟩, show i * size + b - i * size = b by omega]
    exact c2 b hb'
   | succ a =>
    have := k4 a b (by simpa using ha) hb
    rw [show i + 1 + a = i + (a + 1) by omega] at this
    exact this
theorem partsD_ok : ∀ (ps : List (Nat × Operand)) (l : List (Nat × D)), partsD Ω h (ps.map fun p => (p.1, ev p.2)) = some l → l.length = ps.length ∧
  ∀ i, i < ps.length → (l.getD i (0, .np)).1 = (ps.getD i (0, .const undef)).1 ∧ toD Ω h (ev (ps.getD i (0, .const undef)).2) = some (l.getD i (0, .np)).2
 | [], l, hl => by cases hl; exact ⟨rfl, fun i hi => absurd hi (Nat.not_lt_zero _)⟩
 | (i, x) :: r, l, hl => by
  simp only [List.map_cons, partsD] at hl
  split at hl
  ·rename_i d l' hd hl'
   cases hl
   obtain ⟨h1, h2⟩ := partsD_ok r l' hl'
   refine ⟨by simp [h1], fun j hj => ?_⟩
   cases j with
   | zero => exact ⟨rfl, hd⟩
   | succ j => exact h2 j (by simpa using hj)
  ·cases hl
theorem dense_ok {size : Nat} : ∀ (l : List (Nat × D)) (k : Nat) (xs : List D), dense size k l = some xs → xs.length = l.length ∧
  ∀ i, i < l.length → (l.getD i (0, .np)).1 = k + i ∧ xs.getD i .np = (l.getD i (0, .np)).2 ∧ (xs.getD i .np).cells.length = size
 | [], k, xs, hx => by cases hx; exact ⟨rfl, fun i hi => absurd hi (Nat.not_lt_zero _)⟩
 | (i, x) :: r, k, xs, hx => by
  simp only [dense] at hx
  split at hx
  ·rename_i hc
   split at hx
   ·rename_i l hl
    cases hx
    obtain ⟨h1, h2⟩ := dense_ok r (k + 1) l hl
    refine ⟨by simp [h1], fun j hj => ?_⟩
    cases j with
    | zero => exact ⟨by simp [hc.1], rfl, hc.2⟩
    | succ j =>
     obtain ⟨a, b, c⟩ := h2 j (by simpa using hj)
     exact ⟨by rw [show k + (j + 1) = k + 1 + j by omega]; exact a, b, c⟩
   ·cases hx
  ·cases hx
variable (I : Inv ι imm h w) (tt : TTok P E.tt) (he : ∀ x, RepV ι imm w (ev x) (ρ x))
include I tt he
theorem op_buildSlice {T : TypeId} {len : Nat} {parts : Array (Nat × Operand)} (ho : o.op = .buildSlice T len parts) (hK : opR Ω E draw ev h o.op id K) : Done ι imm h w K ((execOp ρ o).run P w) := by
 rw [ho] at hK
 simp only [opR, w_slen, w_sget, w_ssub, w_sset, w_srep, w_scat, BrG_eq, DK_eq, w_ci, w_iand, w_ior, w_ixor, w_ishl, w_ishr, w_wrap, w_tmod, w_lt, w_le, w_eq, w_ne, w_ile, w_ilt, w_tn, w_nadd, w_nsub, w_nlt, w_leb, w_room, w_imax, w_imin, w_bget, w_bext, w_bcat, w_bsz, w_beqs] at hK
 split at hK
 ·rename_i s1 s2 s3 e ht
  have hT := tt _ _ ht
  split at hK
  ·rename_i i hi
   have hj := tt _ _ hi
   split at hK
   ·rename_i l hl
    split at hK
    ·rename_i xs hxs
     obtain ⟨hlen, hbig, hpos, hzero, hK⟩ := hK
     obtain ⟨z, hz⟩ := Option.isSome_iff_exists.1 hzero
     obtain ⟨p1, p2⟩ := partsD_ok _ _ hl
     obtain ⟨d1, d2⟩ := dense_ok _ _ _ hxs
     obtain ⟨imm1, I1, E1⟩ := Inv.freezeL ((parts.toList.map fun p => ev p.2).flatMap idsOf) I
     have hparts : ∀ k, k < parts.toList.length → RepD imm1 w (xs.getD k .np) (ρ (parts.toList.getD k (0, .const undef)).2) ∧ (xs.getD k .np).cells.length = i.size := fun k hk => by
      obtain ⟨a1, a2⟩ := p2 k hk
      obtain ⟨b1, b2, b3⟩ := d2 k (by omega)
      refine ⟨?_, b3⟩
      rw [b2]
      refine toD_rep I1 (fun j hj l e z xs hx => freezeL_done h _ j ?_ l e z xs hx) ((he _).evo I E1) a2
      refine List.mem_flatMap.2 ⟨ev (parts.toList.getD k (0, .const undef)).2, List.mem_map.2 ⟨parts.toList.getD k (0, .const undef), ?_, rfl⟩, hj⟩
      rw [List.getD_eq_getElem?_getD, List.getElem?_eq_getElem hk]
      exact List.getElem_mem hk
     have hpl : parts.toList.length = xs.length := by omega
     obtain ⟨cw', f1, f2, _, f4⟩ := fill_dense (size := i.size) parts.toList xs 0 ((Array.range (len * i.size)).map ((if len * i.size = 0 then #[] else z.cells)[· % (if len * i.size = 0 then #[] else z.cells).size]!)) hpl
      (fun k hk => by rw [← (p2 k hk).1, (d2 k (by omega)).1]) hparts (by simp; rw [show parts.size = len by simpa using hpl.trans hlen]; exact Nat.le_refl _)
     have hsize : cw'.size = len * i.size := by rw [f2]; simp
     have hr : (Instr.buildSlice T len (parts.map fun (i, x) => (i, ρ x))).run P w = .ok (.slice (some ⟨w.heap.size, 0, none⟩) len len) (w.alloc (.cells cw' e)) := by
      have hn : ¬ len * i.size > 2 ^ 24 := by omega
      have hmap : (parts.map fun (x : Nat × Operand) => match x with | (i, x) => (i, ρ x)).toList = parts.toList.map fun p => (p.1, ρ p.2) := by simp
      by_cases hq : len * i.size = 0
      ·simp only [if_pos hq] at f1
       simp only [Instr.buildSlice, Sem.run_bind, run_underlying hT.und, Result.andThen_ok, hj.run_size, if_neg hn, if_pos hq, hmap, f1, newRow, run_newObj, Sem.run_pure]
       rfl
      ·simp only [if_neg hq] at f1
       simp only [Instr.buildSlice, Sem.run_bind, run_underlying hT.und, Result.andThen_ok, hj.run_size, if_neg hn, if_neg hq, hj.run_zero hz, hmap, f1, newRow, run_newObj, Sem.run_pure]
       rfl
     have hexec : (execOp ρ o).run P w = .ok (.value (.slice (some ⟨w.heap.size, 0, none⟩) len len)) (w.alloc (.cells cw' e)) := by
      simp only [execOp, ho, Sem.run_bind, hr, Result.andThen_ok, Sem.run_pure]
     have hux : ∀ x, x ∈ xs → x.cells.length = i.size := fun x hx => by
      obtain ⟨k, hk, rfl⟩ := List.mem_iff_getElem.1 hx
      have := (d2 k (by omega)).2.2
      simpa [List.getD, hk] using this
     subst hlen
     cases hdr : (draw && !Nat.beq xs.length 0) with
     | true =>
      simp only [hdr, if_true] at hK
      have st := I1.newImm (.cells cw' e)
      refine ⟨_, _, _, ι, _, .inl hexec, hK, E1.trans st.2, st.1, ?_⟩
      show RepC _ _ (.sl xs) _
      by_cases hx : xs = []
      ·subst hx; exact .sl0 _ _
      ·refine .sl xs w.heap.size 0 xs.length i.size cw' e (0, 0) hx (.inr rfl) (heap_alloc_new w _) (Nat.le_refl _) hux (fun a b ha hb => ?_) fun a b ha hb => ?_
       ·have := Nat.mul_le_mul_right i.size (Nat.succ_le_of_lt ha); rw [Nat.succ_mul] at this; omega
       ·have := f4 a b ha hb
        rw [Nat.zero_add] at this ⊢
        exact RepC.mono (w := w) (fun g hg => ⟨.inl hg, heap_alloc_old w _ g (I1.lt g hg)⟩) this
     | false =>
      simp only [hdr, Bool.false_eq_true, if_false] at hK
      obtain ⟨hid, hK⟩ := hK
      have hid1 : ups h (freezeL h ((parts.toList.map fun p => ev p.2).flatMap idsOf)) id = none := by
       rcases freezeL_same h ((parts.toList.map fun p => ev p.2).flatMap idsOf) id with q | ⟨l', e', z', xs', q1, q2⟩
       ·exact q.trans hid
       ·rw [hid] at q1; cases q1
      have st := I1.fresh hid1 (.slice (some ⟨w.heap.size, 0, none⟩) xs.length xs.length) (.row true e i.size xs) (w' := w.alloc (.cells cw' e)) (by simp)
       (fun g hg => heap_alloc_old w _ g hg) rfl rfl rfl (fun g hg => by cases hg; exact Nat.le_refl _) ?_
      ·exact ⟨_, _, _, _, imm1, .inl hexec, hK, E1.trans st.2, st.1, ⟨upd_same _ _ _, .inr ⟨_, _, _, rfl⟩⟩⟩
      ·refine ⟨cw'.toList, ⟨by simp [hsize], .inr ⟨w.heap.size, _, cw', _, rfl, Nat.zero_le _, heap_alloc_new w _, .inl rfl, Nat.le_refl _, ?_, Nat.le_of_eq hsize.symm, ?_⟩⟩, hux, fun a b ha hb => ?_⟩
       ·have : xs.length * 1 ≤ xs.length * i.size := Nat.mul_le_mul_left _ hpos
        simp only [maxLen]; omega
       ·rw [List.take_of_length_le]; simp [hsize]
       ·have := f4 a b ha hb
        rw [Nat.zero_add] at this
        have e2 : cw'.toList.getD (a * i.size + b) undef = cw'.getD (a * i.size + b) undef := by
         rw [List.getD_eq_getElem?_getD, Array.getElem?_toList, Array.getD_eq_getD_getElem?]
        rw [e2]
        exact RepC.mono (w := w) (fun g hg => ⟨hg, heap_alloc_old w _ g (I1.lt g hg)⟩) this
    ·exact hK.elim
   ·exact hK.elim
  ·exact hK.elim
 ·exact hK.elim
end
end Go.K
end
section
namespace Go.K
open Go
section
variable {ι : Nat → Option Value} {imm : Nat → Prop} {h : Heap} {w : World} {K : Out → Prop}
variable {P : Program} {E : Env} {draw : Bool} {ev : Operand → V} {ρ : Operand → Value} {o : Oper} {id : Nat}
variable (I : Inv ι imm h w) (tt : TTok P E.tt) (he : ∀ x, RepV ι imm w (ev x) (ρ x))
theorem op_neCall {f : Operand} {g : FuncId} {args : Array Operand} {ts : Array TypeId} {ls : List V} (I : Inv ι imm h w) (he : ∀ x, RepV ι imm w (ev x) (ρ x)) (hne : ∀ (v : Value) (w : World), (callFunc g #[v]).run P w = .ok (.value v) w)
  (ho : o.op = .call { callee := .value f, args := args, argTypes := ts }) (hf : fnOf (ev f) (args.toList.map ev) = some (g, ls)) (hK : neCall (ev f) ls K) : Done ι imm h w K ((execOp ρ o).run P w) := by
 have h1 := he f
 unfold neCall at hK
 split at hK
 ·rename_i g' j off hg
  rw [hg] at hf h1
  unfold fnOf at hf
  simp only [Option.some.injEq, Prod.mk.injEq] at hf
  obtain ⟨rfl, hl⟩ := hf
  obtain ⟨a, rfl, ha⟩ := args_one hl
  have h2 := he a
  have hr := hne (ρ a) w
  refine Done.val (v := ρ a) I ?_ hK (by rw [ha] at h2; exact h2)
  have h3 := repFn h1
  simp [execOp, ho, resolve, h3, Deferred.ofValue, invoke, hr]
 ·exact hK.elim
include I tt he
theorem op_slData {args : Array Operand} {ts : Array TypeId} (ho : o.op = .call { callee := .builtin .unsafeSliceData, args := args, argTypes := ts }) (hK : opR Ω E draw ev h o.op id K) : Done ι imm h w K ((execOp ρ o).run P w) := by
 rw [ho] at hK
 simp only [opR, w_slen, w_nlt] at hK
 split at hK
 all_goals try contradiction
 ·rename_i x T _ ha hT
  obtain ⟨a, rfl, rfl⟩ := args_one ha
  obtain rfl := types_one hT
  have h1 := he a
  split at hK
  ·rename_i hx
   rw [hx] at h1
   have h2 : ρ a = .slice none 0 0 := h1
   refine Done.val (v := .pointer none) I ?_ hK RepC.np
   simp [execOp, ho, resolve, invoke, builtin, h2, Lib.run_unsafeSliceData_nil]
  ·rename_i j sz hx
   rw [hx] at h1
   split at hK
   ·rename_i e z xs hj
    obtain ⟨rfl, rfl, hlen, hK⟩ := hK
    obtain ⟨hιj, hblk, hform⟩ := own_form I hj h1
    rcases hform with ⟨h2, hxs⟩ | ⟨g, cap, h2, hcap⟩
    ·subst hxs; simp at hlen
    ·have hc0 : cap ≠ 0 := by omega
     refine Done.val (v := .pointer (some ⟨g, 0, none⟩)) I ?_ hK ⟨g, _, _, by rw [h2] at hιj; exact hιj, by simp⟩
     simp [execOp, ho, resolve, invoke, builtin, h2, Lib.run_unsafeSliceData_row _ _ _ _ _ _ hc0]
   ·exact hK.elim
  ·exact hK.elim
 all_goals exact hK.elim
theorem op_uString {args : Array Operand} {ts : Array TypeId} (ho : o.op = .call { callee := .builtin .unsafeString, args := args, argTypes := ts }) (hK : opR Ω E draw ev h o.op id K) : Done ι imm h w K ((execOp ρ o).run P w) := by
 rw [ho] at hK
 simp only [opR, w_slen, w_nlt, w_ci] at hK
 split at hK
 all_goals try contradiction
 ·rename_i x y T U _ ha hts
  obtain ⟨a, b, rfl, rfl, rfl⟩ := args_two ha
  obtain rfl := types_two hts
  have h1 := he a
  have h1b := he b
  have fin : ∀ v w', (Builtin.unsafeString_ #[T, U] o.type #[ρ a, ρ b]).run P w = .ok v w' → (execOp ρ o).run P w = .ok (.value v) w' := fun v w' hr => by
   simp [execOp, ho, resolve, invoke, builtin, hr]
  split at hK
  ·rename_i n hx hy
   obtain ⟨rfl, hK⟩ := hK
   rw [hx] at h1
   rw [hy] at h1b
   have h2 : ρ a = .pointer none := repNp h1
   have h3 := repI h1b
   refine Done.val (v := .string .empty) I (fin _ _ ?_) hK (.s _)
   rw [h2, h3]
   exact Lib.run_unsafeString_none w T U o.type none
  ·rename_i j n hx hy
   rw [hx] at h1
   rw [hy] at h1b
   have h3 := repI h1b
   split at hK
   ·rename_i e xs t hj ht
    obtain ⟨rfl, rfl, hlen, hb, hsz, hK⟩ := hK
    obtain ⟨l, rfl⟩ := byts_list hb
    have hll : (bcs l).length = l.length := by simp [bcs]
    have hT := (tt _ _ ht).und
    have hc1 : P.cellsOf t = 1 := by
     split at hsz
     ·rename_i hs
      obtain ⟨info, i1, i2, _, _⟩ := (tt _ _ hs).ok
      simp [Program.cellsOf, i1, i2]
     ·exact hsz.elim
    obtain ⟨g, n, cap, h2, h4⟩ := h1
    obtain ⟨v', h5, cells, ho', hux, hcx⟩ := I.blk j _ hj
    rw [h2] at h5; cases h5
    rcases ho'.2 with ⟨q, _⟩ | ⟨g', cap', cur, fr, q, _, hg, hth, hnc, hcm, hcs, htake⟩
    ·cases q
    cases q
    have hne : l ≠ [] := fun q => by subst q; simp [bcs] at hlen
    have hcell : ∀ (k : Nat) (x : UInt8), l[k]? = some x → w.cell? ((⟨g, 0, none⟩ : Addr).add k) = some (.int .u8 (x.toNat : Int)) := fun k x hk => by
     have hkl : k < l.length := (List.getElem?_eq_some_iff.1 hk).1
     have h6 := hcx k 0 (by rw [hll]; exact hkl) Nat.one_pos
     rw [bcs_get l k x hk] at h6
     have h7 := rep_u8 h6
     rw [addr_add, Nat.zero_add, cell_of_row w g k cur t fr hg]
     rw [show k * 1 + 0 = k by omega, ← htake] at h7
     have hk2 : k < cur.size := by rw [hll] at hnc; omega
     have hk3 : k < (bcs l).length * 1 := by rw [hll]; omega
     simp only [List.getD_eq_getElem?_getD, List.getElem?_take, if_pos hk3] at h7
     rw [show cur.toList[k]? = some cur[k] by simp [hk2]] at h7
     rw [Array.getElem?_eq_getElem hk2]
     exact congrArg some h7
    have hmax : l.length ≤ 9223372036854775807 := by rw [hll] at hnc; simp only [maxLen] at hcm; omega
    have hsh : w.shape? g = some (t, cur.size) := by simp [World.shape?, hg]
    have hr := Lib.run_unsafeString_row (P := P) w T U o.type t hT hc1 g cur.size hsh l hne (by rw [hll] at hnc; omega) hmax hcell
    obtain ⟨w', hw'⟩ : ∃ w', w' = w.freeze ⟨g, 0, none⟩ l.length := ⟨_, rfl⟩
    rw [← hw'] at hr
    have hz : l.length ≠ 0 := by simpa using hne
    have hsize : w'.heap.size = w.heap.size := by rw [hw']; simp [World.freeze, hz]
    have hkeep : ∀ k, k ≠ g → w'.heap[k]? = w.heap[k]? := fun k hk => by
     rw [hw']; simp only [World.freeze, if_neg hz]
     rw [Array.getElem?_modify, if_neg (Ne.symm hk)]
    obtain ⟨fr', hg'⟩ : ∃ fr', w'.heap[g]? = some (.cells cur t fr') := by
     rw [hw']; simp only [World.freeze, if_neg hz]
     rw [Array.getElem?_modify, if_pos rfl, hg]
     exact ⟨_, rfl⟩
    have hrow : BlkRep ι (fun k => imm k ∨ k = g) w' (.row false t 1 (bcs l)) (.slice (some ⟨g, 0, none⟩) (bcs l).length cap) := by
     refine ⟨?_, hux, .inr ⟨_, _, _, rfl⟩⟩
     refine .sl _ g 0 cap 1 cur t fr' (fun q => by rw [q] at hll; exact hz hll.symm) (.inr rfl) hg' hnc hux (fun i q hi hq => by omega) fun i q hi hq => ?_
     obtain rfl : q = 0 := by omega
     have hil : i < l.length := by omega
     rw [bcs_get l i l[i] (List.getElem?_eq_getElem hil)]
     have h8 := hcell i l[i] (List.getElem?_eq_getElem hil)
     rw [addr_add, Nat.zero_add, cell_of_row w g i cur t fr hg] at h8
     have hi2 : i < cur.size := by omega
     rw [Array.getElem?_eq_getElem hi2] at h8
     have e0 : 0 + (i * 1 + 0) = i := by omega
     have e1 : cur.getD (0 + (i * 1 + 0)) undef = .int .u8 (l[i].toNat : Int) := by
      rw [e0]; simp [Array.getD, hi2]; injection h8
     rw [e1]
     exact .i _ _
    have st := I.retire hj rfl h2 rfl (w' := w') hsize hkeep (by rw [hw']; simp [World.freeze, hz]) (by rw [hw']; simp [World.freeze, hz]) (by rw [hw']; simp [World.freeze, hz]) rfl hrow
    rw [dby_bcs] at hK
    have e2 : ups h (freezeL h [j]) = upd h j (some (.row false t 1 (bcs l))) := by simp [freezeL, hj, ups]
    refine ⟨_, _, w', ι, _, .inl (fin (.string ⟨l.toArray⟩) w' ?_), hK, by rw [e2]; exact st.2, by rw [e2]; exact st.1, .s _⟩
    rw [h4, h3, hll, Nat.zero_mul, Nat.zero_add]
    exact hr
   ·exact hK.elim
  ·exact hK.elim
 all_goals exact hK.elim
end
end Go.K
end
