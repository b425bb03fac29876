/-
  Parts of the proof, joined by a program of this work: KOp, KSim, KDraw.
-/
import Derived.Test.YtjoimiljaljgcaaGreatMbc
set_option linter.unnecessarySimpa false
set_option linter.unusedSectionVars false
set_option linter.unusedSimpArgs false
set_option linter.unusedVariables false
section
namespace Go.K
open Go
section
variable {ι : Nat → Option Value} {imm : Nat → Prop} {h : Heap} {w : World} {K : Out → Prop}
variable {P : Program} {E : Env} {draw : Bool} {ev : Operand → V} {ρ : Operand → Value} {o : Oper} {id : Nat}
theorem op_sound (ok : EnvOk P E) (I : Inv ι imm h w) (he : ∀ x, RepV ι imm w (ev x) (ρ x)) (hK : opR Ω E draw ev h o.op id K) : OpDone P ι imm h w K ((execOp ρ o).run P w) := by
 have tt := ok.tt
 cases ho : o.op with
 | move x => exact .inl (op_move I he ho hK)
 | assign x => exact .inl (op_assign I he ho hK)
 | pick c a b => exact .inl (op_pick I he ho hK)
 | nilCheck x => exact .inl (op_nilCheck I he ho hK)
 | alloc T => exact .inl (op_alloc I tt he ho hK)
 | box T x => exact .inl (op_box I he ho hK)
 | store T x y => exact .inl (op_store I tt he ho hK)
 | load T x => exact .inl (op_load I tt he ho hK)
 | fieldAddr T x f => exact .inl (op_fieldAddr I tt he ho hK)
 | field T x f => exact .inl (op_field I tt he ho hK)
 | index T x y => exact .inl (op_index I tt he ho hK)
 | indexAddr T x y => exact .inl (op_indexAddr I tt he ho hK)
 | slice T x lo hi mx => exact .inl (op_slice I tt he ho hK)
 | build T parts => exact .inl (op_build I tt he ho hK)
 | buildSlice T len parts => exact .inl (op_buildSlice I tt he ho hK)
 | makeSlice T l c => exact .inl (op_makeSlice I tt he ho hK)
 | binOp op T x y U => exact .inl (op_binOp I tt he ho hK)
 | unOp op T x => exact .inl (op_unOp I tt he ho hK)
 | convert S T x => exact .inl (op_convert I tt he ho hK)
 | extract x k => exact .inl (op_extract I he ho hK)
 | makeInterface T x => exact .inl (op_makeInterface I tt he ho hK)
 | makeFunc fn first captured => exact .inl (op_makeFunc I he ho hK)
 | call c =>
  obtain ⟨callee, args, ts⟩ := c
  cases callee with
  | value f =>
   rw [ho] at hK
   simp only [opR, w_slen, w_sget, w_ssub, w_sset, w_srep, w_scat, BrG_eq, DK_eq, w_ci, w_iand, w_ior, w_ixor, w_ishl, w_ishr, w_wrap, w_tmod, w_lt, w_le, w_eq, w_ne, w_ile, w_ilt, w_tn, w_nadd, w_nsub, w_nlt, w_leb, w_room, w_imax, w_imin, w_bget, w_bext, w_bcat, w_bsz, w_beqs] at hK
   split at hK
   ·rename_i g ls hf
    split at hK
    ·split at hK
     ·split at hK
      ·rename_i bs hb
       obtain ⟨r, hC, hσ, hcl, hK⟩ := hK
       have h1 := (getAll_ok _ _ hb).1
       have := op_callRef I ok he ho hf hb hC (ns := []) (by trivial) List.nodup_nil (by simp) (by simp) hσ (K := fun out => out = { v := ren (back (reach h 40 (ls.flatMap vids) [] ++ [])) r, upd := (reach h 40 (ls.flatMap vids) [] ++ []).zip ((bs.map (renB (fore (reach h 40 (ls.flatMap vids) [])))).map (renB (back (reach h 40 (ls.flatMap vids) [] ++ [])))), rd := reach h 40 (ls.flatMap vids) [] ++ [] }) rfl
       refine this.map fun out e => ⟨_, hK, ?_, ?_⟩
       ·rw [e, List.append_nil]
       ·rw [e]
        simp only [List.append_nil, hcl]
        exact (ups_zip_self _ _ hb).symm
      ·exact hK.elim
     split at hK
     ·rename_i bs hb
      obtain ⟨r, bs', hC, hn, hl, hσ, hK⟩ := hK
      have h1 := (getAll_ok _ _ hb).1
      have hm := (ok.C2 g _ _ r bs' hC)
      exact op_callRef I ok he ho hf hb hC hn (newIds_nodup _ _) hl (by simp [newIds]) hσ hK
     ·exact hK.elim
    ·split at hK
     ·rename_i ds hd
      obtain ⟨r, hC, hK⟩ := hK
      exact op_callPure I ok he ho hf hd hC hK
     ·exact hK.elim
   ·exact hK.elim
  | invoke r m => rw [ho] at hK; simp only [opR, w_slen, w_sget, w_ssub, w_sset, w_srep, w_scat, BrG_eq, DK_eq, w_ci, w_iand, w_ior, w_ixor, w_ishl, w_ishr, w_wrap, w_tmod, w_lt, w_le, w_eq, w_ne, w_ile, w_ilt, w_tn, w_nadd, w_nsub, w_nlt, w_leb, w_room, w_imax, w_imin, w_bget, w_bext, w_bcat, w_bsz, w_beqs] at hK
  | builtin b =>
   cases b with
   | len => exact .inl (op_len I tt he ho hK)
   | append => exact .inl (op_append I tt he ho hK)
   | max => exact .inl (op_max I tt he ho hK)
   | min => exact .inl (op_min I tt he ho hK)
   | copy => exact .inl (op_copy I tt he ho hK)
   | _ =>
    rw [ho] at hK; simp only [opR, w_slen, w_sget, w_ssub, w_sset, w_srep, w_scat, BrG_eq, DK_eq, w_ci, w_iand, w_ior, w_ixor, w_ishl, w_ishr, w_wrap, w_tmod, w_lt, w_le, w_eq, w_ne, w_ile, w_ilt, w_tn, w_nadd, w_nsub, w_nlt, w_leb, w_room, w_imax, w_imin, w_bget, w_bext, w_bcat, w_bsz, w_beqs] at hK
 | _ => rw [ho] at hK; simp only [opR, w_slen, w_sget, w_ssub, w_sset, w_srep, w_scat, BrG_eq, DK_eq, w_ci, w_iand, w_ior, w_ixor, w_ishl, w_ishr, w_wrap, w_tmod, w_lt, w_le, w_eq, w_ne, w_ile, w_ilt, w_tn, w_nadd, w_nsub, w_nlt, w_leb, w_room, w_imax, w_imin, w_bget, w_bext, w_bcat, w_bsz, w_beqs] at hK
theorem opR_ex (hd : draw = true) (hK : opR Ω E draw ev h o.op id K) : ∃ out, opR Ω E draw ev h o.op id (fun x => x = out) ∧ K out := by
 subst hd
 cases ho : o.op with
 | pick c a b =>
  rw [ho] at hK
  simp only [opR, w_slen, w_sget, w_ssub, w_sset, w_srep, w_scat, BrG_eq, DK_eq, w_ci, w_iand, w_ior, w_ixor, w_ishl, w_ishr, w_wrap, w_tmod, w_lt, w_le, w_eq, w_ne, w_ile, w_ilt, w_tn, w_nadd, w_nsub, w_nlt, w_leb, w_room, w_imax, w_imin, w_bget, w_bext, w_bcat, w_bsz, w_beqs] at hK ⊢
  split at hK
  ·exact ⟨_, rfl, hK⟩
  ·exact hK.elim
 | unOp op T x =>
  rw [ho] at hK
  simp only [opR, w_slen, w_sget, w_ssub, w_sset, w_srep, w_scat, BrG_eq, DK_eq, w_ci, w_iand, w_ior, w_ixor, w_ishl, w_ishr, w_wrap, w_tmod, w_lt, w_le, w_eq, w_ne, w_ile, w_ilt, w_tn, w_nadd, w_nsub, w_nlt, w_leb, w_room, w_imax, w_imin, w_bget, w_bext, w_bcat, w_bsz, w_beqs] at hK ⊢
  split at hK
  ·exact ⟨_, rfl, hK⟩
  ·exact ⟨_, rfl, hK⟩
  ·exact ⟨_, rfl, hK⟩
  ·exact hK.elim
 | store T x y =>
  rw [ho] at hK
  simp only [opR] at hK ⊢
  split at hK
  ·split at hK
   ·split at hK
    ·obtain ⟨a1, a2, hK⟩ := hK; exact ⟨_, ⟨a1, a2, rfl⟩, hK⟩
    ·exact hK.elim
   ·exact hK.elim
  ·split at hK
   ·split at hK
    ·obtain ⟨a1, a2, a3, a4, hK⟩ := hK
     split at hK
     ·rename_i c
      refine ⟨_, ⟨a1, a2, a3, a4, ?_⟩, hK⟩
      rw [if_pos c]
     ·rename_i c
      obtain ⟨a5, x0, a6, hK⟩ := hK
      refine ⟨_, ⟨a1, a2, a3, a4, ?_⟩, hK⟩
      rw [if_neg c]
      exact ⟨a5, x0, a6, rfl⟩
    ·exact hK.elim
   ·exact hK.elim
  ·exact hK.elim
 | load T x =>
  rw [ho] at hK
  simp only [opR, w_slen, w_sget, w_ssub, w_sset, w_srep, w_scat, BrG_eq, DK_eq, w_ci, w_iand, w_ior, w_ixor, w_ishl, w_ishr, w_wrap, w_tmod, w_lt, w_le, w_eq, w_ne, w_ile, w_ilt, w_tn, w_nadd, w_nsub, w_nlt, w_leb, w_room, w_imax, w_imin, w_bget, w_bext, w_bcat, w_bsz, w_beqs] at hK ⊢
  split at hK
  ·split at hK
   ·obtain ⟨a1, a2, hK⟩ := hK; exact ⟨_, ⟨a1, a2, rfl⟩, hK⟩
   ·exact hK.elim
  ·split at hK
   ·obtain ⟨a1, x, a2, a3, a4, hK⟩ := hK; exact ⟨_, ⟨a1, x, a2, a3, a4, rfl⟩, hK⟩
   ·exact hK.elim
  ·obtain ⟨a1, a2, a3, hK⟩ := hK; exact ⟨_, ⟨a1, a2, a3, rfl⟩, hK⟩
  ·exact hK.elim
 | buildSlice T len parts =>
  rw [ho] at hK
  simp only [opR, w_slen, w_sget, w_ssub, w_sset, w_srep, w_scat, BrG_eq, DK_eq, w_ci, w_iand, w_ior, w_ixor, w_ishl, w_ishr, w_wrap, w_tmod, w_lt, w_le, w_eq, w_ne, w_ile, w_ilt, w_tn, w_nadd, w_nsub, w_nlt, w_leb, w_room, w_imax, w_imin, w_bget, w_bext, w_bcat, w_bsz, w_beqs] at hK ⊢
  split at hK
  ·split at hK
   ·split at hK
    ·split at hK
     ·obtain ⟨a1, a2, a3, a4, hK⟩ := hK
      cases hd : (true && !Nat.beq len 0) with
      | true =>
       simp only [hd, if_true] at hK ⊢
       exact ⟨_, ⟨a1, a2, a3, a4, rfl⟩, hK⟩
      | false =>
       simp only [hd, Bool.false_eq_true, if_false] at hK ⊢
       exact ⟨_, ⟨a1, a2, a3, a4, hK.1, rfl⟩, hK.2⟩
     ·exact hK.elim
    ·exact hK.elim
   ·exact hK.elim
  ·exact hK.elim
 | call c =>
  obtain ⟨callee, args, ts⟩ := c
  cases callee with
  | invoke r m => rw [ho] at hK; simp only [opR, w_slen, w_sget, w_ssub, w_sset, w_srep, w_scat, BrG_eq, DK_eq, w_ci, w_iand, w_ior, w_ixor, w_ishl, w_ishr, w_wrap, w_tmod, w_lt, w_le, w_eq, w_ne, w_ile, w_ilt, w_tn, w_nadd, w_nsub, w_nlt, w_leb, w_room, w_imax, w_imin, w_bget, w_bext, w_bcat, w_bsz, w_beqs] at hK
  | value f =>
   rw [ho] at hK
   simp only [opR, w_slen, w_sget, w_ssub, w_sset, w_srep, w_scat, BrG_eq, DK_eq, w_ci, w_iand, w_ior, w_ixor, w_ishl, w_ishr, w_wrap, w_tmod, w_lt, w_le, w_eq, w_ne, w_ile, w_ilt, w_tn, w_nadd, w_nsub, w_nlt, w_leb, w_room, w_imax, w_imin, w_bget, w_bext, w_bcat, w_bsz, w_beqs] at hK ⊢
   split at hK
   ·split at hK
    ·rename_i hm
     simp only [hm, if_true]
     split at hK
     ·rename_i hr
      simp only [hr, if_true]
      split at hK
      ·obtain ⟨r, a1, a2, a3, hK⟩ := hK
       exact ⟨_, ⟨r, a1, a2, a3, rfl⟩, hK⟩
      ·exact hK.elim
     ·rename_i hr
      simp only [hr]
      split at hK
      ·obtain ⟨r, bs', a1, a2, a3, a4, hK⟩ := hK
       exact ⟨_, ⟨r, bs', a1, a2, a3, a4, rfl⟩, hK⟩
      ·exact hK.elim
    ·rename_i hm
     simp only [hm]
     split at hK
     ·obtain ⟨r, a1, hK⟩ := hK
      exact ⟨_, ⟨r, a1, rfl⟩, hK⟩
     ·exact hK.elim
   ·exact hK.elim
  | builtin b =>
   cases b with
   | len =>
    rw [ho] at hK
    simp only [opR, w_slen, w_sget, w_ssub, w_sset, w_srep, w_scat, BrG_eq, DK_eq, w_ci, w_iand, w_ior, w_ixor, w_ishl, w_ishr, w_wrap, w_tmod, w_lt, w_le, w_eq, w_ne, w_ile, w_ilt, w_tn, w_nadd, w_nsub, w_nlt, w_leb, w_room, w_imax, w_imin, w_bget, w_bext, w_bcat, w_bsz, w_beqs] at hK ⊢
    split at hK
    ·repeat' split at hK
     all_goals first
      | exact hK.elim
      | exact ⟨_, rfl, hK⟩
    ·rename_i q _ _; cases q
    ·exact hK.elim
   | append =>
    rw [ho] at hK
    simp only [opR, w_slen, w_sget, w_ssub, w_sset, w_srep, w_scat, BrG_eq, DK_eq, w_ci, w_iand, w_ior, w_ixor, w_ishl, w_ishr, w_wrap, w_tmod, w_lt, w_le, w_eq, w_ne, w_ile, w_ilt, w_tn, w_nadd, w_nsub, w_nlt, w_leb, w_room, w_imax, w_imin, w_bget, w_bext, w_bcat, w_bsz, w_beqs] at hK ⊢
    split at hK
    ·rename_i q _ _; cases q
    ·split at hK
     ·split at hK
      ·obtain ⟨a1, a2, a3, hK⟩ := hK
       split at hK
       ·obtain ⟨a4, a5, hK⟩ := hK
        split at hK
        ·obtain ⟨a6, hK⟩ := hK
         exact ⟨_, ⟨a1, a2, a3, a4, a5, a6, rfl⟩, hK⟩
        ·split at hK
         ·obtain ⟨b1, b2, b3, b4, hK⟩ := hK
          exact ⟨_, ⟨a1, a2, a3, a4, a5, b1, b2, b3, b4, rfl⟩, hK⟩
         ·exact hK.elim
        ·exact hK.elim
       ·exact hK.elim
      ·exact hK.elim
     ·exact hK.elim
    ·exact hK.elim
   | max =>
    rw [ho] at hK
    simp only [opR] at hK ⊢
    split at hK
    ·obtain ⟨a1, hK⟩ := hK; exact ⟨_, ⟨a1, rfl⟩, hK⟩
    ·exact hK.elim
   | min =>
    rw [ho] at hK
    simp only [opR] at hK ⊢
    split at hK
    ·obtain ⟨a1, hK⟩ := hK; exact ⟨_, ⟨a1, rfl⟩, hK⟩
    ·exact hK.elim
   | copy =>
    rw [ho] at hK
    simp only [opR] at hK
    cases hK.1
   | _ => rw [ho] at hK; simp only [opR, w_slen, w_sget, w_ssub, w_sset, w_srep, w_scat, BrG_eq, DK_eq, w_ci, w_iand, w_ior, w_ixor, w_ishl, w_ishr, w_wrap, w_tmod, w_lt, w_le, w_eq, w_ne, w_ile, w_ilt, w_tn, w_nadd, w_nsub, w_nlt, w_leb, w_room, w_imax, w_imin, w_bget, w_bext, w_bcat, w_bsz, w_beqs] at hK
 | slice T x lo hi mx =>
  rw [ho] at hK
  simp only [opR] at hK ⊢
  by_cases c : lo = none ∧ mx.isSome = true
  ·simp only [if_pos c] at hK ⊢
   repeat' split at hK
   all_goals first
    | exact hK.elim
    | (obtain ⟨a1, a2, a3, a4, hK⟩ := hK; exact ⟨_, ⟨a1, a2, a3, a4, rfl⟩, hK⟩)
    | (obtain ⟨a1, a2, a3, a4, a5, hK⟩ := hK; exact ⟨_, ⟨a1, a2, a3, a4, a5, rfl⟩, hK⟩)
    | (obtain ⟨a1, a2, a3, a4, a5, a6, hK⟩ := hK; exact ⟨_, ⟨a1, a2, a3, a4, a5, a6, rfl⟩, hK⟩)
    | (obtain ⟨a1, a2, a3, a4, a5, a6, a7, hK⟩ := hK; exact ⟨_, ⟨a1, a2, a3, a4, a5, a6, a7, rfl⟩, hK⟩)
  ·simp only [if_neg c] at hK ⊢
   repeat' split at hK
   all_goals first
    | exact hK.elim
    | (obtain ⟨a1, a2, a3, a4, hK⟩ := hK; exact ⟨_, ⟨a1, a2, a3, a4, rfl⟩, hK⟩)
    | (obtain ⟨a1, a2, a3, a4, a5, hK⟩ := hK; exact ⟨_, ⟨a1, a2, a3, a4, a5, rfl⟩, hK⟩)
    | (obtain ⟨a1, a2, a3, a4, a5, a6, hK⟩ := hK; exact ⟨_, ⟨a1, a2, a3, a4, a5, a6, rfl⟩, hK⟩)
    | (obtain ⟨a1, a2, a3, a4, a5, a6, a7, hK⟩ := hK; exact ⟨_, ⟨a1, a2, a3, a4, a5, a6, a7, rfl⟩, hK⟩)
 | _ =>
  rw [ho] at hK
  simp only [opR, w_slen, w_sget, w_ssub, w_sset, w_srep, w_scat, BrG_eq, DK_eq, w_ci, w_iand, w_ior, w_ixor, w_ishl, w_ishr, w_wrap, w_tmod, w_lt, w_le, w_eq, w_ne, w_ile, w_ilt, w_tn, w_nadd, w_nsub, w_nlt, w_leb, w_room, w_imax, w_imin, w_bget, w_bext, w_bcat, w_bsz, w_beqs] at hK ⊢
  repeat' split at hK
  all_goals first
   | exact hK.elim
   | exact ⟨_, rfl, hK⟩
   | (obtain ⟨a1, hK⟩ := hK; exact ⟨_, ⟨a1, rfl⟩, hK⟩)
   | (obtain ⟨a1, a2, hK⟩ := hK; exact ⟨_, ⟨a1, a2, rfl⟩, hK⟩)
   | (obtain ⟨a1, a2, a3, hK⟩ := hK; exact ⟨_, ⟨a1, a2, a3, rfl⟩, hK⟩)
   | (obtain ⟨a1, a2, a3, a4, hK⟩ := hK; exact ⟨_, ⟨a1, a2, a3, a4, rfl⟩, hK⟩)
   | (obtain ⟨a1, a2, a3, a4, a5, hK⟩ := hK; exact ⟨_, ⟨a1, a2, a3, a4, a5, rfl⟩, hK⟩)
   | (obtain ⟨a1, a2, a3, a4, a5, a6, hK⟩ := hK; exact ⟨_, ⟨a1, a2, a3, a4, a5, a6, rfl⟩, hK⟩)
   | (obtain ⟨a1, a2, a3, a4, a5, a6, a7, hK⟩ := hK; exact ⟨_, ⟨a1, a2, a3, a4, a5, a6, a7, rfl⟩, hK⟩)
   | (obtain ⟨a1, a2, a3, a4, a5, a6, a7, a8, hK⟩ := hK; exact ⟨_, ⟨a1, a2, a3, a4, a5, a6, a7, a8, rfl⟩, hK⟩)
   | (obtain ⟨a1, x, a2, hK⟩ := hK; exact ⟨_, ⟨a1, x, a2, rfl⟩, hK⟩)
   | (obtain ⟨a1, x, a2, a3, hK⟩ := hK; exact ⟨_, ⟨a1, x, a2, a3, rfl⟩, hK⟩)
   | (cases hK.1)
   | exact hK.2.elim
theorem idsOf_constV (z : Value) : idsOf (constV z) = [] := by
 have one : ∀ y, ids1 (const1 y) = [] := fun y => by
  unfold const1; split <;> rfl
 unfold constV
 split
 ·split
  ·simp only [idsOf]
   rename_i cs _
   have : ∀ l : List Value, (l.map const1).flatMap ids1 = [] := fun l => by
    induction l with
    | nil => rfl
    | cons a r ih => simp only [List.map_cons, List.flatMap_cons, one, ih, List.append_nil]
   exact this _
  ·rfl
 ·rename_i v hv
  have h0 := one z
  generalize hq : const1 z = q at h0
  cases q with
  | agg cs => exfalso; unfold const1 at hq; split at hq <;> cases hq
  | _ => exact h0
theorem toD1_local {h2 : Heap} {x : V} (ha : ∀ j, j ∈ ids1 x → h2 j = h j) : toD1 Ω h2 x = toD1 Ω h x := by
 cases x with
 | own i sz => simp only [toD1, ha i (by simp [ids1])]
 | ref i sz off len => simp only [toD1, ha i (by simp [ids1])]
 | _ => rfl
theorem allD_local {h2 : Heap} : ∀ (l : List V), (∀ j, j ∈ l.flatMap ids1 → h2 j = h j) → allD Ω h2 l = allD Ω h l
 | [], _ => rfl
 | a :: r, ha => by
  simp only [allD]
  rw [toD1_local fun j hj => ha j (by simp [hj]), allD_local r fun j hj => ha j (by simp only [List.flatMap_cons, List.mem_append]; exact .inr hj)]
theorem toD_local {h2 : Heap} {x : V} (ha : ∀ j, j ∈ idsOf x → h2 j = h j) : toD Ω h2 x = toD Ω h x := by
 cases x with
 | agg cs => simp only [toD, allD_local cs ha]
 | own i sz => exact toD1_local (x := .own i sz) ha
 | ref i sz off len => exact toD1_local (x := .ref i sz off len) ha
 | _ => rfl
theorem toDs_local {h2 : Heap} : ∀ (l : List V), (∀ j, j ∈ l.flatMap idsOf → h2 j = h j) → toDs Ω h2 l = toDs Ω h l
 | [], _ => rfl
 | a :: r, ha => by
  simp only [toDs]
  rw [toD_local fun j hj => ha j (by simp [hj]), toDs_local r fun j hj => ha j (by simp only [List.flatMap_cons, List.mem_append]; exact .inr hj)]
theorem partsD_local {h2 : Heap} : ∀ (l : List (Nat × V)), (∀ j, j ∈ (l.map Prod.snd).flatMap idsOf → h2 j = h j) → partsD Ω h2 l = partsD Ω h l
 | [], _ => rfl
 | (i, a) :: r, ha => by
  simp only [partsD]
  rw [toD_local fun j hj => ha j (by simp [hj]), partsD_local r fun j hj => ha j (by simp only [List.map_cons, List.flatMap_cons, List.mem_append]; exact .inr hj)]
theorem freezeL_local {h2 : Heap} : ∀ (l : List Nat), (∀ j, j ∈ l → h2 j = h j) → freezeL h2 l = freezeL h l
 | [], _ => rfl
 | a :: r, ha => by
  simp only [freezeL]
  rw [ha a (by simp), freezeL_local r fun j hj => ha j (by simp [hj])]
theorem getAll_local {h2 : Heap} : ∀ (l : List Nat), (∀ j, j ∈ l → h2 j = h j) → getAll h2 l = getAll h l
 | [], _ => rfl
 | a :: r, ha => by
  simp only [getAll]
  rw [ha a (by simp), getAll_local r fun j hj => ha j (by simp [hj])]
theorem allNew_local {h2 : Heap} : ∀ (l : List Nat), (∀ j, j ∈ l → h2 j = h j) → allNew h l → allNew h2 l
 | [], _, _ => trivial
 | a :: r, ha, hn => ⟨(ha a (by simp)).trans hn.1, allNew_local r (fun j hj => ha j (by simp [hj])) hn.2⟩
theorem reach_mono {h2 : Heap} : ∀ (n : Nat) (l acc : List Nat), ∀ j, j ∈ acc → j ∈ reach h n l acc
 | 0, _, _, _, hj => hj
 | _ + 1, [], _, _, hj => hj
 | n + 1, i :: r, acc, j, hj => by
  simp only [reach]
  split
  ·exact reach_mono (h2 := h2) n r acc j hj
  ·split
   ·exact reach_mono (h2 := h2) n _ _ j (by simp [hj])
   ·exact reach_mono (h2 := h2) n _ _ j (by simp [hj])
theorem reach_local {h2 : Heap} : ∀ (n : Nat) (l acc : List Nat), (∀ j, j ∈ reach h n l acc → h2 j = h j) → reach h2 n l acc = reach h n l acc
 | 0, _, _, _ => rfl
 | _ + 1, [], _, _ => rfl
 | n + 1, i :: r, acc, ha => by
  simp only [reach] at ha ⊢
  by_cases c : acc.contains i = true
  ·simp only [if_pos c] at ha ⊢
   exact reach_local n r acc ha
  ·simp only [if_neg c] at ha ⊢
   have hi : h2 i = h i := by
    refine ha i ?_
    split
    ·exact reach_mono (h2 := h2) n _ _ i (by simp)
    ·exact reach_mono (h2 := h2) n _ _ i (by simp)
   rw [hi]
   split
   ·rename_i cs hcs
    refine reach_local n _ _ fun j hj => ha j ?_
    rw [hcs]; exact hj
   ·rename_i hne
    refine reach_local n _ _ fun j hj => ha j ?_
    split
    ·rename_i cs hcs; exact absurd hcs (hne cs)
    ·exact hj
theorem opR_local {h2 : Heap} {out : Out} (hK : opR Ω E draw ev h o.op id (fun x => x = out)) (ha : ∀ j, j ∈ out.rd → h2 j = h j) : opR Ω E draw ev h2 o.op id (fun x => x = out) := by
 cases ho : o.op with
 | alloc T =>
  rw [ho] at hK
  simp only [opR, w_slen, w_sget, w_ssub, w_sset, w_srep, w_scat, BrG_eq, DK_eq, w_ci, w_iand, w_ior, w_ixor, w_ishl, w_ishr, w_wrap, w_tmod, w_lt, w_le, w_eq, w_ne, w_ile, w_ilt, w_tn, w_nadd, w_nsub, w_nlt, w_leb, w_room, w_imax, w_imin, w_bget, w_bext, w_bcat, w_bsz, w_beqs] at hK ⊢
  split at hK
  ·split at hK
   ·obtain ⟨a1, rfl⟩ := hK
    exact ⟨(ha id (by simp)).trans a1, rfl⟩
   ·exact hK.elim
  ·exact hK.elim
 | box T x =>
  rw [ho] at hK
  simp only [opR, w_slen, w_sget, w_ssub, w_sset, w_srep, w_scat, BrG_eq, DK_eq, w_ci, w_iand, w_ior, w_ixor, w_ishl, w_ishr, w_wrap, w_tmod, w_lt, w_le, w_eq, w_ne, w_ile, w_ilt, w_tn, w_nadd, w_nsub, w_nlt, w_leb, w_room, w_imax, w_imin, w_bget, w_bext, w_bcat, w_bsz, w_beqs] at hK ⊢
  split at hK
  ·obtain ⟨a1, rfl⟩ := hK
   exact ⟨(ha id (by simp)).trans a1, rfl⟩
  ·exact hK.elim
 | store T x y =>
  rw [ho] at hK
  simp only [opR, w_slen, w_sget, w_ssub, w_sset, w_srep, w_scat, BrG_eq, DK_eq, w_ci, w_iand, w_ior, w_ixor, w_ishl, w_ishr, w_wrap, w_tmod, w_lt, w_le, w_eq, w_ne, w_ile, w_ilt, w_tn, w_nadd, w_nsub, w_nlt, w_leb, w_room, w_imax, w_imin, w_bget, w_bext, w_bcat, w_bsz, w_beqs] at hK ⊢
  split at hK
  ·split at hK
   ·rename_i hj
    split at hK
    ·obtain ⟨a1, a2, rfl⟩ := hK
     have := ha _ (List.Mem.head _)
     simp only [this, hj]
     exact ⟨a1, a2, trivial⟩
    ·exact hK.elim
   ·exact hK.elim
  ·split at hK
   ·rename_i hj
    split at hK
    ·rename_i hy
     obtain ⟨a1, a2, a3, a4, hK⟩ := hK
     split at hK
     ·rename_i c
      subst hK
      have h1 := ha _ (List.Mem.head _)
      have h2' : toD Ω h2 (ev y) = toD Ω h (ev y) := toD_local fun j hj => ha j (List.Mem.tail _ hj)
      have h3 : freezeL h2 (idsOf (ev y)) = freezeL h (idsOf (ev y)) := freezeL_local _ fun j hj => ha j (List.Mem.tail _ hj)
      simp only [h1, hj, h2', hy, h3, if_pos c]
      exact ⟨a1, a2, a3, a4, trivial⟩
     ·rename_i c
      obtain ⟨a5, x0, a6, rfl⟩ := hK
      have h1 := ha _ (List.Mem.head _)
      have h2' : toD Ω h2 (ev y) = toD Ω h (ev y) := toD_local fun j hj => ha j (List.Mem.tail _ hj)
      have h3 : freezeL h2 (idsOf (ev y)) = freezeL h (idsOf (ev y)) := freezeL_local _ fun j hj => ha j (List.Mem.tail _ hj)
      simp only [h1, hj, h2', hy, h3, if_neg c]
      exact ⟨a1, a2, a3, a4, a5, x0, a6, rfl⟩
    ·exact hK.elim
   ·exact hK.elim
  ·exact hK.elim
 | load T x =>
  rw [ho] at hK
  simp only [opR, w_slen, w_sget, w_ssub, w_sset, w_srep, w_scat, BrG_eq, DK_eq, w_ci, w_iand, w_ior, w_ixor, w_ishl, w_ishr, w_wrap, w_tmod, w_lt, w_le, w_eq, w_ne, w_ile, w_ilt, w_tn, w_nadd, w_nsub, w_nlt, w_leb, w_room, w_imax, w_imin, w_bget, w_bext, w_bcat, w_bsz, w_beqs] at hK ⊢
  split at hK
  ·split at hK
   ·rename_i hj
    obtain ⟨a1, a2, rfl⟩ := hK
    have := ha _ (List.Mem.head _)
    simp only [this, hj]
    exact ⟨a1, a2, trivial⟩
   ·exact hK.elim
  ·split at hK
   ·rename_i hj
    obtain ⟨a1, x, a2, a3, a4, rfl⟩ := hK
    have := ha _ (List.Mem.head _)
    simp only [this, hj]
    exact ⟨a1, x, a2, a3, a4, rfl⟩
   ·exact hK.elim
  ·exact hK
  ·exact hK.elim
 | indexAddr T x y =>
  rw [ho] at hK
  simp only [opR, w_slen, w_sget, w_ssub, w_sset, w_srep, w_scat, BrG_eq, DK_eq, w_ci, w_iand, w_ior, w_ixor, w_ishl, w_ishr, w_wrap, w_tmod, w_lt, w_le, w_eq, w_ne, w_ile, w_ilt, w_tn, w_nadd, w_nsub, w_nlt, w_leb, w_room, w_imax, w_imin, w_bget, w_bext, w_bcat, w_bsz, w_beqs] at hK ⊢
  split at hK
  ·exact hK
  ·split at hK
   ·split at hK
    ·exact hK
    ·split at hK
     ·rename_i hj
      obtain ⟨a1, a2, a3, a4, rfl⟩ := hK
      have := ha _ (List.Mem.head _)
      simp only [this, hj]
      exact ⟨a1, a2, a3, a4, trivial⟩
     ·exact hK.elim
    ·exact hK
    ·exact hK.elim
   ·exact hK.elim
  ·exact hK.elim
 | slice T x lo hi mx =>
  rw [ho] at hK
  simp only [opR, w_slen, w_sget, w_ssub, w_sset, w_srep, w_scat, BrG_eq, DK_eq, w_ci, w_iand, w_ior, w_ixor, w_ishl, w_ishr, w_wrap, w_tmod, w_lt, w_le, w_eq, w_ne, w_ile, w_ilt, w_tn, w_nadd, w_nsub, w_nlt, w_leb, w_room, w_imax, w_imin, w_bget, w_bext, w_bcat, w_bsz, w_beqs] at hK ⊢
  split at hK
  ·split at hK
   ·split at hK
    ·exact hK
    ·split at hK
     ·rename_i hj
      split at hK
      ·rename_i c
       split at hK
       ·rename_i q1 q2
        obtain ⟨a1, a2, a3, a4, a5, a6, a7, rfl⟩ := hK
        have g1 := ha _ (List.Mem.head _)
        have g2 := ha _ (List.Mem.tail _ (List.Mem.head _))
        simp only [g2, hj, if_pos c, q1, q2]
        exact ⟨a1, a2, a3, a4, a5, a6, g1.trans a7, trivial⟩
       ·exact hK.elim
      ·rename_i c
       split at hK
       ·rename_i q1 q2 q3
        obtain ⟨a1, a2, a3, a4, a5, a6, a7, rfl⟩ := hK
        have := ha _ (List.Mem.head _)
        simp only [this, hj, if_neg c, q1, q2, q3]
        exact ⟨a1, a2, a3, a4, a5, a6, a7, trivial⟩
       ·exact hK.elim
     ·exact hK.elim
    ·exact hK
    ·exact hK.elim
   ·exact hK.elim
  ·exact hK
  ·exact hK.elim
 | buildSlice T len parts =>
  rw [ho] at hK
  simp only [opR, w_slen, w_sget, w_ssub, w_sset, w_srep, w_scat, BrG_eq, DK_eq, w_ci, w_iand, w_ior, w_ixor, w_ishl, w_ishr, w_wrap, w_tmod, w_lt, w_le, w_eq, w_ne, w_ile, w_ilt, w_tn, w_nadd, w_nsub, w_nlt, w_leb, w_room, w_imax, w_imin, w_bget, w_bext, w_bcat, w_bsz, w_beqs] at hK ⊢
  split at hK
  ·split at hK
   ·split at hK
    ·rename_i q1
     split at hK
     ·rename_i q2
      obtain ⟨a1, a2, a3, a4, hK⟩ := hK
      have key : (∀ j, j ∈ (parts.toList.map fun p => ev p.2).flatMap idsOf → h2 j = h j) → partsD Ω h2 (parts.toList.map fun p => (p.1, ev p.2)) = partsD Ω h (parts.toList.map fun p => (p.1, ev p.2)) ∧
        freezeL h2 ((parts.toList.map fun p => ev p.2).flatMap idsOf) = freezeL h ((parts.toList.map fun p => ev p.2).flatMap idsOf) := fun hh => by
       refine ⟨partsD_local _ ?_, freezeL_local _ hh⟩
       simpa [List.map_map, Function.comp_def] using hh
      cases hd : (draw && !Nat.beq len 0) with
      | true =>
       simp only [hd, if_true] at hK ⊢
       subst hK
       obtain ⟨k1, k2⟩ := key fun j hj => ha j hj
       simp only [k1, q1, q2, k2]
       exact ⟨a1, a2, a3, a4, trivial⟩
      | false =>
       simp only [hd, Bool.false_eq_true, if_false] at hK ⊢
       obtain ⟨a5, rfl⟩ := hK
       obtain ⟨k1, k2⟩ := key fun j hj => ha j (List.Mem.tail _ hj)
       have h1 := ha _ (List.Mem.head _)
       simp only [k1, q1, q2, k2, h1]
       exact ⟨a1, a2, a3, a4, a5, trivial⟩
     ·exact hK.elim
    ·exact hK.elim
   ·exact hK.elim
  ·exact hK.elim
 | makeSlice T l c =>
  rw [ho] at hK
  simp only [opR, w_slen, w_sget, w_ssub, w_sset, w_srep, w_scat, BrG_eq, DK_eq, w_ci, w_iand, w_ior, w_ixor, w_ishl, w_ishr, w_wrap, w_tmod, w_lt, w_le, w_eq, w_ne, w_ile, w_ilt, w_tn, w_nadd, w_nsub, w_nlt, w_leb, w_room, w_imax, w_imin, w_bget, w_bext, w_bcat, w_bsz, w_beqs] at hK ⊢
  split at hK
  ·split at hK
   ·split at hK
    ·split at hK
     ·rename_i q
      obtain ⟨a0, a1, a2, a3, a4, a5, a6, rfl⟩ := hK
      have h1 := ha _ (List.Mem.head _)
      have q2 := (toD_local (h2 := h2) (h := h) (fun j hj => by rw [idsOf_constV] at hj; exact absurd hj List.not_mem_nil)).trans q
      simp only [q2]
      exact ⟨h1.trans a0, a1, a2, a3, a4, a5, a6, trivial⟩
     ·exact hK.elim
    ·exact hK.elim
   ·exact hK.elim
  ·exact hK.elim
 | call c =>
  obtain ⟨callee, args, ts⟩ := c
  cases callee with
  | invoke r m => rw [ho] at hK; simp only [opR, w_slen, w_sget, w_ssub, w_sset, w_srep, w_scat, BrG_eq, DK_eq, w_ci, w_iand, w_ior, w_ixor, w_ishl, w_ishr, w_wrap, w_tmod, w_lt, w_le, w_eq, w_ne, w_ile, w_ilt, w_tn, w_nadd, w_nsub, w_nlt, w_leb, w_room, w_imax, w_imin, w_bget, w_bext, w_bcat, w_bsz, w_beqs] at hK
  | value f =>
   rw [ho] at hK
   simp only [opR, w_slen, w_sget, w_ssub, w_sset, w_srep, w_scat, BrG_eq, DK_eq, w_ci, w_iand, w_ior, w_ixor, w_ishl, w_ishr, w_wrap, w_tmod, w_lt, w_le, w_eq, w_ne, w_ile, w_ilt, w_tn, w_nadd, w_nsub, w_nlt, w_leb, w_room, w_imax, w_imin, w_bget, w_bext, w_bcat, w_bsz, w_beqs] at hK ⊢
   split at hK
   ·rename_i g ls hf0
    split at hK
    ·rename_i hm
     simp only [hm, if_true]
     split at hK
     ·rename_i hro
      simp only [hro, if_true]
      split at hK
      ·rename_i q
       obtain ⟨r, a1, a2, a3, rfl⟩ := hK
       have hr : reach h2 40 (ls.flatMap vids) [] = reach h 40 (ls.flatMap vids) [] := reach_local _ _ _ fun j hj => ha j hj
       have hg : getAll h2 (reach h 40 (ls.flatMap vids) []) = getAll h (reach h 40 (ls.flatMap vids) []) := getAll_local _ fun j hj => ha j hj
       simp only [hr, hg, q]
       exact ⟨r, a1, a2, a3, rfl⟩
      ·exact hK.elim
     rename_i hro
     simp only [hro]
     split at hK
     ·rename_i q
      obtain ⟨r, bs', a1, a2, a3, a4, rfl⟩ := hK
      have hr : reach h2 40 (ls.flatMap vids) [] = reach h 40 (ls.flatMap vids) [] := reach_local _ _ _ fun j hj => ha j (List.mem_append_left _ hj)
      have hg : getAll h2 (reach h 40 (ls.flatMap vids) []) = getAll h (reach h 40 (ls.flatMap vids) []) := getAll_local _ fun j hj => ha j (List.mem_append_left _ hj)
      simp only [hr, hg, q]
      exact ⟨r, bs', a1, allNew_local _ (fun j hj => ha j (List.mem_append_right _ hj)) a2, a3, a4, rfl⟩
     ·exact hK.elim
    ·rename_i hm
     simp only [hm]
     split at hK
     ·rename_i q
      obtain ⟨r, a1, rfl⟩ := hK
      have h1 : toDs Ω h2 ls = toDs Ω h ls := toDs_local _ fun j hj => ha j hj
      have h3 : freezeL h2 (ls.flatMap idsOf) = freezeL h (ls.flatMap idsOf) := freezeL_local _ fun j hj => ha j hj
      simp only [h1, q, h3]
      exact ⟨r, a1, rfl⟩
     ·exact hK.elim
   ·exact hK.elim
  | builtin b =>
   cases b with
   | len =>
    rw [ho] at hK
    simp only [opR, w_slen, w_sget, w_ssub, w_sset, w_srep, w_scat, BrG_eq, DK_eq, w_ci, w_iand, w_ior, w_ixor, w_ishl, w_ishr, w_wrap, w_tmod, w_lt, w_le, w_eq, w_ne, w_ile, w_ilt, w_tn, w_nadd, w_nsub, w_nlt, w_leb, w_room, w_imax, w_imin, w_bget, w_bext, w_bcat, w_bsz, w_beqs] at hK ⊢
    split at hK
    ·split at hK
     ·exact hK
     ·exact hK
     ·split at hK
      ·rename_i hj
       subst hK
       have := ha _ (List.Mem.head _)
       simp only [this, hj]
      ·exact hK.elim
     ·exact hK
     ·exact hK
     ·exact hK
     ·exact hK.elim
    ·rename_i q _ _; cases q
    ·exact hK.elim
   | append =>
    rw [ho] at hK
    simp only [opR, w_slen, w_sget, w_ssub, w_sset, w_srep, w_scat, BrG_eq, DK_eq, w_ci, w_iand, w_ior, w_ixor, w_ishl, w_ishr, w_wrap, w_tmod, w_lt, w_le, w_eq, w_ne, w_ile, w_ilt, w_tn, w_nadd, w_nsub, w_nlt, w_leb, w_room, w_imax, w_imin, w_bget, w_bext, w_bcat, w_bsz, w_beqs] at hK ⊢
    split at hK
    ·rename_i q _ _; cases q
    ·rename_i x y T U _ hargs hts
     split at hK
     ·split at hK
      ·obtain ⟨a1, a2, a3, hK⟩ := hK
       split at hK
       ·rename_i q
        obtain ⟨a4, a5, hK⟩ := hK
        split at hK
        ·obtain ⟨a6, rfl⟩ := hK
         have h1 := ha _ (List.Mem.head _)
         have hy : toD Ω h2 y = toD Ω h y := toD_local fun j hj => ha j (List.Mem.tail _ hj)
         have h3 : freezeL h2 (idsOf y) = freezeL h (idsOf y) := freezeL_local _ fun j hj => ha j (List.Mem.tail _ hj)
         simp only [hy, q, h3]
         exact ⟨a1, a2, a3, h1.trans a4, a5, a6, trivial⟩
        ·split at hK
         ·rename_i hj
          obtain ⟨b1, b2, b3, b4, rfl⟩ := hK
          have h1 := ha _ (List.Mem.head _)
          have h1' := ha _ (List.Mem.tail _ (List.Mem.head _))
          have hy : toD Ω h2 y = toD Ω h y := toD_local fun j hj => ha j (List.Mem.tail _ (List.Mem.tail _ hj))
          have h3 : freezeL h2 (idsOf y) = freezeL h (idsOf y) := freezeL_local _ fun j hj => ha j (List.Mem.tail _ (List.Mem.tail _ hj))
          simp only [hy, q, h3, h1', hj]
          exact ⟨a1, a2, a3, h1.trans a4, a5, b1, b2, b3, b4, trivial⟩
         ·exact hK.elim
        ·exact hK.elim
       ·exact hK.elim
      ·exact hK.elim
     ·exact hK.elim
    ·exact hK.elim
   | max => rw [ho] at hK; simp only [opR] at hK ⊢; exact hK
   | min => rw [ho] at hK; simp only [opR] at hK ⊢; exact hK
   | copy =>
    rw [ho] at hK
    simp only [opR] at hK ⊢
    obtain ⟨a0, hK⟩ := hK
    refine ⟨a0, ?_⟩
    split at hK
    ·rename_i y _ _ _ _
     split at hK
     ·rename_i q1 q2 q3
      split at hK
      ·rename_i q4
       obtain ⟨a1, a2, a3, a4, a5, a6, rfl⟩ := hK
       have h1 := ha _ (List.Mem.head _)
       have hy : toD Ω h2 y = toD Ω h y := toD_local fun j hj => ha j (List.Mem.tail _ hj)
       have h3 : freezeL h2 (idsOf y) = freezeL h (idsOf y) := freezeL_local _ fun j hj => ha j (List.Mem.tail _ hj)
       simp only [hy, h1, q1, q2, q3, q4, h3]
       exact ⟨a1, a2, a3, a4, a5, a6, trivial⟩
      ·exact hK.elim
     ·exact hK.elim
    ·exact hK.elim
   | _ => rw [ho] at hK; simp only [opR, w_slen, w_sget, w_ssub, w_sset, w_srep, w_scat, BrG_eq, DK_eq, w_ci, w_iand, w_ior, w_ixor, w_ishl, w_ishr, w_wrap, w_tmod, w_lt, w_le, w_eq, w_ne, w_ile, w_ilt, w_tn, w_nadd, w_nsub, w_nlt, w_leb, w_room, w_imax, w_imin, w_bget, w_bext, w_bcat, w_bsz, w_beqs] at hK
 | _ =>
  rw [ho] at hK
  simpa only [opR] using hK
end
end Go.K
end
section
namespace Go.K
open Go
structure Base where
 ι : Nat → Option Value
 imm : Nat → Prop
 h : Heap
 w : World
def Sim (B : Base) (n : Nat) (s : St) (a : Act) (w : World) : Prop :=
 ∃ ι imm, Evo B.ι B.imm B.h B.w ι imm s.h w ∧ Inv ι imm s.h w ∧ a.tmps.size = n ∧ a.defers = [] ∧ ∀ t, RepV ι imm w (s.sl t) (a.tmps.getD t undef)
theorem Inv.sameHeap {ι : Nat → Option Value} {imm : Nat → Prop} {h : Heap} {w w' : World} (I : Inv ι imm h w) (e : w'.heap = w.heap) : Inv ι imm h w' :=
 ⟨fun id B hid => let ⟨v, h1, h2⟩ := I.blk id B hid; ⟨v, h1, h2.mono (fun _ _ q => q) (fun g hg => ⟨hg, by rw [e]⟩) fun g _ _ => by rw [e]⟩, I.non, I.own, I.inj, fun g hg => by rw [e]; exact I.lt g hg⟩
theorem Sim.drew {B : Base} {n : Nat} {s : St} {a : Act} {w : World} (h : Sim B n s a w) : Sim B n s a { w with drawn := w.drawn + 1 } := by
 obtain ⟨ι, imm, e, I, h1, h2, h3⟩ := h
 exact ⟨ι, imm, ⟨e.ids, e.immS, e.immR, e.own', e.keep, e.size, e.os, e.tape, e.output⟩, I.sameHeap rfl, h1, h2, fun t => RepV.mono (w := w) (w' := { w with drawn := w.drawn + 1 }) (fun _ _ q => q) (fun g hg => ⟨hg, rfl⟩) (h3 t)⟩
theorem ev_rep {ι : Nat → Option Value} {imm : Nat → Prop} {w : World} {s : Nat → V} {a : Act} (h : ∀ t, RepV ι imm w (s t) (a.tmps.getD t undef)) (x : Operand) : RepV ι imm w (ev s x) (a.eval x) := by
 cases x with
 | tmp t => exact h t
 | const v => exact constV_rep _ _ _ v
 | global g => trivial
 | func f => exact rfl
theorem put_rep {ι : Nat → Option Value} {imm : Nat → Prop} {w : World} {s : Nat → V} {a : Act} {n : Nat} (hn : a.tmps.size = n) (h : ∀ t, RepV ι imm w (s t) (a.tmps.getD t undef)) {d : Option Tmp} (hd : ∀ t, d = some t → t < n)
  {x : V} {v : Value} (hv : RepV ι imm w x v) : ∀ t, RepV ι imm w (put s d x t) ((a.put d v).tmps.getD t undef) := by
 intro t
 cases d with
 | none => exact h t
 | some d =>
  have hlt : d < n := hd d rfl
  simp only [put, Act.put]
  by_cases c : t = d
  ·subst c
   rw [upd_same]
   have : (a.tmps.setIfInBounds t v).getD t undef = v := by
    have : t < a.tmps.size := by rw [hn]; exact hlt
    simp [Array.getD, this]
   rw [this]; exact hv
  ·rw [upd_other _ _ _ _ c]
   have : (a.tmps.setIfInBounds d v).getD t undef = a.tmps.getD t undef := by
    simp only [Array.getD_eq_getD_getElem?, Array.getElem?_setIfInBounds, if_neg (Ne.symm c)]
   rw [this]; exact h t
def guardOf (ops : Array Oper) (s : Nat → V) (o : Oper) : Option Bool :=
 match o.guard with
 | none => some true
 | some (j, want) => match (ops[j]?).bind (·.dst) with
  | some t => match s t with
   | .d (.b x) => some (decide (x = want))
   | .tup [] => some false
   | _ => none
  | none => none
theorem guard_rep {ι : Nat → Option Value} {imm : Nat → Prop} {w : World} {s : Nat → V} {a : Act} (h : ∀ t, RepV ι imm w (s t) (a.tmps.getD t undef)) {ops : Array Oper} {o : Oper} {b : Bool} (hg : guardOf ops s o = some b) :
  Region.wanted o (yielded ops a.tmps) = b := by
 unfold guardOf at hg
 unfold Region.wanted
 cases hgd : o.guard with
 | none => rw [hgd] at hg; cases hg; rfl
 | some p =>
  obtain ⟨j, want⟩ := p
  rw [hgd] at hg
  simp only at hg ⊢
  split at hg
  ·rename_i t ht
   split at hg
   ·rename_i x hx
    cases hg
    have h1 := h t
    rw [hx] at h1
    have h2 := repB h1
    have hlt : t < a.tmps.size := by
     rcases Nat.lt_or_ge t a.tmps.size with q | q
     ·exact q
     ·rw [Array.getD_eq_getD_getElem?, Array.getElem?_eq_none (by omega)] at h2; cases h2
    have h3 : a.tmps[t]? = some (.bool x) := by
     rw [← h2]; simp [Array.getD, hlt]
    simp only [yielded, ht, Option.bind_some, h3]
    cases x <;> cases want <;> rfl
   ·rename_i hx
    cases hg
    have h1 := h t
    rw [hx] at h1
    obtain ⟨vs, h2, h4, _⟩ := h1
    have h3 : ∀ y, a.tmps[t]? = some y → y = .tuple vs := fun y hy => by
     rw [← h2]; simp [Array.getD_eq_getD_getElem?, hy]
    have h5 : yielded ops a.tmps j = none := by
     simp only [yielded, ht, Option.bind_some]
     cases hy : a.tmps[t]? with
     | none => rfl
     | some y => rw [h3 y hy]
    rw [h5]
    cases want <;> rfl
   ·cases hg
  ·cases hg
section
variable {P : Program} {E : Env} {B : Base} {n : Nat}
theorem oper_sound (ok : EnvOk P E) {draw : Bool} {s : St} {a : Act} {w : World} (S : Sim B n s a w) {o : Oper} {id : Nat} {K : Out → Prop} (hK : opR Ω E draw (ev s.sl) s.h o.op id K) (hd : ∀ t, o.dst = some t → t < n)
  {next : Act → World → Prop} {Q : Exit → Act → World → Prop} (hn : ∀ out a' w', K out → Sim B n (step s o.dst out) a' w' → next a' w') : o.wp P a w next Q := by
 obtain ⟨ι, imm, e, I, h1, h2, h3⟩ := S
 have hput : ∀ v, (a.put o.dst v).tmps.size = n := fun v => by cases o.dst <;> simp [Act.put, h1]
 have hdef : ∀ v, (a.put o.dst v).defers = [] := fun v => by cases o.dst <;> simp [Act.put, h2]
 unfold Oper.wp
 rcases op_sound ok I (ev_rep h3) hK with ⟨out, v, w', ι', imm', hr, hk, e', I', hv⟩ | ⟨g, vs, hr, hc⟩
 ·have fin := hn out (a.put o.dst v) w' hk ⟨ι', imm', e.trans e', I', hput v, hdef v, put_rep h1 (fun t => (h3 t).evo I e') hd hv⟩
  rcases hr with hr | ⟨hr, rfl⟩
  ·rw [hr]; exact fin
  ·rw [hr]; exact fin
 ·rw [hr]
  simp only [Oper.upon]
  refine hc.mono ?_
  rintro e0 w' ⟨v, out, ι', imm', rfl, hk, e', I', hv⟩
  exact hn out (a.put o.dst v) w' hk ⟨ι', imm', e.trans e', I', hput v, hdef v, put_rep h1 (fun t => (h3 t).evo I e') hd hv⟩
theorem skip_sound {s : St} {a : Act} {w : World} (S : Sim B n s a w) {o : Oper} (hd : ∀ t, o.dst = some t → t < n) : Sim B n (step s o.dst { v := .tup [] }) (a.put o.dst undef) w := by
 obtain ⟨ι, imm, e, I, h1, h2, h3⟩ := S
 exact ⟨ι, imm, e, I, by cases o.dst <;> simp [Act.put, h1], by cases o.dst <;> simp [Act.put, h2], put_rep h1 h3 hd (x := .tup []) ⟨#[], rfl, rfl, fun j hj => absurd hj (Nat.not_lt_zero _)⟩⟩
theorem wpl_guard {draw : Bool} {base : Nat} {ops : Array Oper} {o : Oper} {r : List Oper} {m : Nat} {log : List Foot} {s : St} {K : List Foot → St → Prop} (h : wpl Ω E draw base ops (o :: r) m log s K) :
  (guardOf ops s.sl o = some true ∧ opR Ω E draw (ev s.sl) s.h o.op (base + m) fun out => wpl Ω E draw base ops r (m + 1) (⟨m, out.upd.map Prod.fst ++ out.rd, out.upd.map Prod.fst⟩ :: log) (step s o.dst out) K) ∨
  (guardOf ops s.sl o = some false ∧ wpl Ω E draw base ops r (m + 1) (⟨m, [], []⟩ :: log) (step s o.dst { v := .tup [] }) K) := by
 unfold wpl at h
 simp only [BrG_eq] at h
 unfold guardOf
 split at h
 ·rename_i hg
  rw [hg]; exact .inl ⟨rfl, h⟩
 ·rename_i j want hg
  rw [hg]
  simp only
  split at h
  ·rename_i t ht
   rw [ht]
   simp only
   split at h
   ·rename_i x hx
    rw [hx]
    simp only
    by_cases c : x = want
    ·rw [if_pos c] at h
     exact .inl ⟨by simp [c], h⟩
    ·rw [if_neg c] at h
     exact .inr ⟨by simp [c], h⟩
   ·rename_i hx
    rw [hx]
    exact .inr ⟨rfl, h⟩
   ·exact h.elim
  ·exact h.elim
theorem wpl_sound (ok : EnvOk P E) {base : Nat} {ops : Array Oper} (hd : ∀ (i : Nat) (o : Oper) (t : Tmp), ops[i]? = some o → o.dst = some t → t < n) {Q : Exit → Act → World → Prop} :
  ∀ (r : List Oper) (m : Nat), (∀ j : Nat, r[j]? = ops[m + j]?) → ∀ (log : List Foot) (s : St) (a : Act) (w : World) (K : List Foot → St → Prop), wpl Ω E false base ops r m log s K → Sim B n s a w →
   (∀ log s' a' w', K log s' → Sim B n s' a' w' → Q .normal a' w') → wpOps P ops Q (List.range' m r.length) a w
 | [], m, _, log, s, a, w, K, h, S, hQ => hQ log s a w h S
 | o :: r, m, hr, log, s, a, w, K, h, S, hQ => by
  have h0 : ops[m]? = some o := by simpa using (hr 0).symm
  have hr' : ∀ j : Nat, r[j]? = ops[m + 1 + j]? := fun j => by have := hr (j + 1); simpa [Nat.add_assoc, Nat.add_comm 1 j] using this
  simp only [List.length_cons, List.range'_succ, wpOps, h0]
  have hg : ∀ b, guardOf ops s.sl o = some b → Region.wanted o (yielded ops a.tmps) = b := fun b hb => by
   obtain ⟨ι, imm, e, I, h1, h2, h3⟩ := S
   exact guard_rep h3 hb
  rcases wpl_guard h with ⟨g, hop⟩ | ⟨g, hskip⟩
  ·rw [hg _ g]
   simp only [if_true]
   exact .inl (oper_sound ok S hop (fun t ht => hd m o t h0 ht) fun out a' w' hk S' => wpl_sound ok hd r (m + 1) hr' _ _ a' w' K hk S' hQ)
  ·rw [hg _ g]
   simp only [Bool.false_eq_true, if_false]
   exact wpl_sound ok hd r (m + 1) hr' _ _ _ _ K hskip (skip_sound S fun t ht => hd m o t h0 ht) hQ
end
end Go.K
end
section
namespace Go.K
open Go
section
variable {E : Env} {draw : Bool} {ev ev' : Operand → V} {h : Heap} {id : Nat}
theorem opR_congr {op : Op} (he : ∀ x, x ∈ op.operands → ev x = ev' x) : opR Ω E draw ev h op id = opR Ω E draw ev' h op id := by
 funext K
 have one : ∀ x, x ∈ op.operands.toList → ev x = ev' x := fun x hx => he x (by simpa using hx)
 cases op with
 | move x => simp only [opR, he x (by simp [Op.operands])]
 | assign x => simp only [opR, he x (by simp [Op.operands])]
 | pick c a b => simp only [opR, he c (by simp [Op.operands]), he a (by simp [Op.operands]), he b (by simp [Op.operands])]
 | nilCheck x => simp only [opR, he x (by simp [Op.operands])]
 | box T x => simp only [opR, he x (by simp [Op.operands])]
 | store T x y => simp only [opR, he x (by simp [Op.operands]), he y (by simp [Op.operands])]
 | load T x => simp only [opR, he x (by simp [Op.operands])]
 | fieldAddr T x f => simp only [opR, he x (by simp [Op.operands])]
 | field T x f => simp only [opR, he x (by simp [Op.operands])]
 | index T x y => simp only [opR, he x (by simp [Op.operands]), he y (by simp [Op.operands])]
 | indexAddr T x y => simp only [opR, he x (by simp [Op.operands]), he y (by simp [Op.operands])]
 | slice T x lo hi mx =>
  have h1 : lo.map ev = lo.map ev' := by cases lo with
   | none => rfl
   | some l => simp only [Option.map_some, he l (by simp [Op.operands])]
  have h2 : hi.map ev = hi.map ev' := by cases hi with
   | none => rfl
   | some l => simp only [Option.map_some, he l (by simp [Op.operands])]
  have h3 : mx.map ev = mx.map ev' := by cases mx with
   | none => rfl
   | some l => simp only [Option.map_some, he l (by simp [Op.operands])]
  simp only [opR, he x (by simp [Op.operands]), h1, h2, h3]
 | build T parts =>
  have h1 : (parts.toList.map fun p => (p.1, ev p.2)) = parts.toList.map fun p => (p.1, ev' p.2) := List.map_congr_left fun p hp => by
   rw [he p.2 (by simp only [Op.operands, List.mem_toArray, List.mem_map]; exact ⟨p, hp, rfl⟩)]
  simp only [opR, h1]
 | buildSlice T len parts =>
  have h1 : (parts.toList.map fun p => (p.1, ev p.2)) = parts.toList.map fun p => (p.1, ev' p.2) := List.map_congr_left fun p hp => by
   rw [he p.2 (by simp only [Op.operands, List.mem_toArray, List.mem_map]; exact ⟨p, hp, rfl⟩)]
  have h2 : (parts.toList.map fun p => ev p.2) = parts.toList.map fun p => ev' p.2 := List.map_congr_left fun p hp => by
   rw [he p.2 (by simp only [Op.operands, List.mem_toArray, List.mem_map]; exact ⟨p, hp, rfl⟩)]
  simp only [opR, h1, h2]
 | makeSlice T l c => simp only [opR, he l (by simp [Op.operands]), he c (by simp [Op.operands])]
 | binOp op T x y U => simp only [opR, he x (by simp [Op.operands]), he y (by simp [Op.operands])]
 | unOp op T x => simp only [opR, he x (by simp [Op.operands])]
 | convert S T x => simp only [opR, he x (by simp [Op.operands])]
 | extract x k => simp only [opR, he x (by simp [Op.operands])]
 | makeInterface T x => simp only [opR, he x (by simp [Op.operands])]
 | call c =>
  obtain ⟨callee, args, ts⟩ := c
  have h1 : args.toList.map ev = args.toList.map ev' := List.map_congr_left fun p hp => he p (by
   simp only [Op.operands, Call.operands, Array.mem_append]
   exact .inr (by simpa using hp))
  cases callee with
  | value f => simp only [opR, h1, he f (by simp [Op.operands, Call.operands])]
  | invoke r m => simp only [opR]
  | builtin b => cases b <;> simp only [opR, h1]
 | makeFunc fn first captured =>
  have h1 : first.toList.map ev = first.toList.map ev' := List.map_congr_left fun p hp => he p (by
   simp only [Op.operands, Array.mem_append]
   exact .inl (by simpa using hp))
  have h2 : captured.toList.map ev = captured.toList.map ev' := List.map_congr_left fun p hp => he p (by
   simp only [Op.operands, Array.mem_append]
   exact .inr (by simpa using hp))
  simp only [opR, h1, h2]
 | _ => simp only [opR]
end
theorem put_comm (s : Nat → V) {x y : Option Tmp} (v u : V) (h : ∀ d, x = some d → y ≠ some d) : put (put s x v) y u = put (put s y u) x v := by
 cases x with
 | none => rfl
 | some d =>
  cases y with
  | none => rfl
  | some e =>
   have hne : e ≠ d := fun he => h d rfl (by rw [he])
   funext t
   simp only [put, upd]
   by_cases c : t = e
   ·subst c; simp [hne]
   ·by_cases d' : t = d <;> simp [c, d', Ne.symm hne]
theorem ups_other (h : Heap) : ∀ (l : List (Nat × Blk)) (i : Nat), i ∉ l.map Prod.fst → ups h l i = h i
 | [], i, _ => rfl
 | (k, b) :: r, i, hi => by
  simp only [List.map_cons, List.mem_cons, not_or] at hi
  simp only [ups]
  rw [upd_other _ _ _ _ hi.1]
  exact ups_other h r i hi.2
theorem ups_same (h h2 : Heap) : ∀ (l : List (Nat × Blk)) (i : Nat), i ∈ l.map Prod.fst → ups h l i = ups h2 l i
 | (k, b) :: r, i, hi => by
  simp only [ups]
  by_cases c : i = k
  ·subst c; rw [upd_same, upd_same]
  ·rw [upd_other _ _ _ _ c, upd_other _ _ _ _ c]
   simp only [List.map_cons, List.mem_cons] at hi
   exact ups_same h h2 r i (hi.resolve_left c)
theorem ups_comm (h : Heap) (a b : List (Nat × Blk)) (hd : ∀ i, i ∈ a.map Prod.fst → i ∉ b.map Prod.fst) : ups (ups h a) b = ups (ups h b) a := by
 funext i
 by_cases c : i ∈ a.map Prod.fst
 ·rw [ups_other _ b i (hd i c)]
  exact ups_same _ _ a i c
 ·rw [ups_other _ a i c]
  by_cases d : i ∈ b.map Prod.fst
  ·exact ups_same _ _ b i d
  ·rw [ups_other _ b i d, ups_other _ b i d, ups_other _ a i c]
section
variable {E : Env} {base : Nat} {ops : Array Oper}
def skipOut : Out := { v := .tup [] }
def Fires (E : Env) (base : Nat) (ops : Array Oper) (n : Nat) (o : Oper) (s : St) (out : Out) : Prop :=
 (guardOf ops s.sl o = some true ∧ opR Ω E true (ev s.sl) s.h o.op (base + n) (fun x => x = out)) ∨ (guardOf ops s.sl o = some false ∧ out = skipOut)
def Trc (E : Env) (base : Nat) (ops : Array Oper) : List (Nat × Out) → St → St → Prop
 | [], s, s' => s' = s
 | (n, out) :: r, s, s' => ∃ o, ops[n]? = some o ∧ Fires E base ops n o s out ∧ Trc E base ops r (step s o.dst out) s'
def wrOf (out : Out) : List Nat := out.upd.map Prod.fst
def rdOf (out : Out) : List Nat := out.upd.map Prod.fst ++ out.rd
def Ind (ops : Array Oper) (x y : Nat × Out) : Prop :=
 (∀ ox oy, ops[x.1]? = some ox → ops[y.1]? = some oy → ox.apart ops oy = true) ∧ (∀ i, i ∈ wrOf x.2 → i ∉ rdOf y.2) ∧ (∀ i, i ∈ wrOf y.2 → i ∉ rdOf x.2)
theorem guardOf_put {s : Nat → V} {o : Oper} {d : Option Tmp} {v : V} (h : ∀ t, d = some t → t ∉ o.looksAt ops) : guardOf ops (put s d v) o = guardOf ops s o := by
 cases d with
 | none => rfl
 | some d =>
  unfold guardOf
  cases hg : o.guard with
  | none => rfl
  | some p =>
   obtain ⟨j, want⟩ := p
   simp only
   cases ht : (ops[j]?).bind (·.dst) with
   | none => rfl
   | some t =>
    have : t ≠ d := fun e => by
     subst e
     refine h t rfl ?_
     simp only [Oper.looksAt, hg, ht, List.mem_append]
     exact .inr (by simp)
    simp only [put]
    rw [upd_other _ _ _ _ this]
theorem ev_put {s : Nat → V} {o : Oper} {d : Option Tmp} {v : V} (h : ∀ t, d = some t → t ∉ o.looksAt ops) : ∀ x, x ∈ o.op.operands → ev (put s d v) x = ev s x := fun x hx => by
 cases d with
 | none => rfl
 | some d =>
  cases x with
  | tmp t =>
   have : t ≠ d := fun e => by
    subst e
    refine h t rfl ?_
    simp only [Oper.looksAt, List.mem_append, List.mem_filterMap]
    exact .inl ⟨.tmp t, by simpa using hx, rfl⟩
   simp only [ev, put]
   rw [upd_other _ _ _ _ this]
  | _ => rfl
theorem Fires.later {x y : Nat × Out} {ox oy : Oper} (hx : ops[x.1]? = some ox) (hy : ops[y.1]? = some oy) (hi : Ind ops x y) {s : St} (hf : Fires E base ops y.1 oy (step s ox.dst x.2) y.2) : Fires E base ops y.1 oy s y.2 := by
 obtain ⟨h1, h2, h3⟩ := Oper.apart_spec (hi.1 ox oy hx hy)
 unfold Fires at hf ⊢
 have hg : guardOf ops (step s ox.dst x.2).sl oy = guardOf ops s.sl oy := guardOf_put h1
 rw [hg] at hf
 rcases hf with ⟨a, b⟩ | c
 ·left
  refine ⟨a, ?_⟩
  rw [show (step s ox.dst x.2).sl = put s.sl ox.dst x.2.v from rfl, opR_congr (ev_put h1)] at b
  refine opR_local b fun j hj => ?_
  show s.h j = ups s.h x.2.upd j
  exact (ups_other _ _ _ fun q => hi.2.1 j q (List.mem_append_right _ hj)).symm
 ·exact .inr c
theorem Fires.sooner {x y : Nat × Out} {ox oy : Oper} (hx : ops[x.1]? = some ox) (hy : ops[y.1]? = some oy) (hi : Ind ops x y) {s : St} (hf : Fires E base ops x.1 ox s x.2) : Fires E base ops x.1 ox (step s oy.dst y.2) x.2 := by
 obtain ⟨h1, h2, h3⟩ := Oper.apart_spec (hi.1 ox oy hx hy)
 unfold Fires at hf ⊢
 have hg : guardOf ops (step s oy.dst y.2).sl ox = guardOf ops s.sl ox := guardOf_put h3
 rw [hg]
 rcases hf with ⟨a, b⟩ | c
 ·left
  refine ⟨a, ?_⟩
  rw [show (step s oy.dst y.2).sl = put s.sl oy.dst y.2.v from rfl, opR_congr (ev_put h3)]
  refine opR_local b fun j hj => ?_
  show ups s.h y.2.upd j = s.h j
  exact ups_other _ _ _ fun q => hi.2.2 j q (List.mem_append_right _ hj)
 ·exact .inr c
theorem step_comm {x y : Nat × Out} {ox oy : Oper} (hx : ops[x.1]? = some ox) (hy : ops[y.1]? = some oy) (hi : Ind ops x y) (s : St) : step (step s ox.dst x.2) oy.dst y.2 = step (step s oy.dst y.2) ox.dst x.2 := by
 obtain ⟨h1, h2, h3⟩ := Oper.apart_spec (hi.1 ox oy hx hy)
 simp only [step]
 rw [put_comm _ _ _ h2, ups_comm]
 exact fun i a b => hi.2.1 i a (List.mem_append_left _ b)
theorem Trc.first {s' : St} : ∀ (pre : List (Nat × Out)) (x : Nat × Out) (post : List (Nat × Out)) (s : St), (∀ y, y ∈ pre → Ind ops y x) → Trc E base ops (pre ++ x :: post) s s' → Trc E base ops (x :: (pre ++ post)) s s'
 | [], x, post, s, _, h => h
 | y :: pre, x, post, s, hi, h => by
  obtain ⟨oy, hy, fy, hr⟩ := h
  obtain ⟨ox, hx, fx, hr2⟩ := Trc.first pre x post _ (fun z hz => hi z (by simp [hz])) hr
  have ind := hi y (by simp)
  refine ⟨ox, hx, fx.later hy hx ind, oy, hy, fy.sooner hy hx ind, ?_⟩
  rw [← step_comm hy hx ind]
  exact hr2
theorem wpl_trc : ∀ (r : List Oper) (m : Nat), (∀ j : Nat, r[j]? = ops[m + j]?) → ∀ (log : List Foot) (s : St) (K : List Foot → St → Prop), wpl Ω E true base ops r m log s K →
  ∃ tr s', tr.map Prod.fst = List.range' m r.length ∧ Trc E base ops tr s s' ∧ K ((tr.map fun x => (⟨x.1, rdOf x.2, wrOf x.2⟩ : Foot)).reverse ++ log) s'
 | [], m, _, log, s, K, h => ⟨[], s, rfl, rfl, h⟩
 | o :: r, m, hr, log, s, K, h => by
  have h0 : ops[m]? = some o := by simpa using (hr 0).symm
  have hr' : ∀ j : Nat, r[j]? = ops[m + 1 + j]? := fun j => by have := hr (j + 1); simpa [Nat.add_assoc, Nat.add_comm 1 j] using this
  rcases wpl_guard h with ⟨g, hop⟩ | ⟨g, hskip⟩
  ·obtain ⟨out, h1, h2⟩ := opR_ex rfl hop
   obtain ⟨tr, s', t1, t2, t3⟩ := wpl_trc r (m + 1) hr' _ _ K h2
   refine ⟨(m, out) :: tr, s', by simp [t1, List.range'_succ], ⟨o, h0, .inl ⟨g, h1⟩, t2⟩, ?_⟩
   simpa [rdOf, wrOf] using t3
  ·obtain ⟨tr, s', t1, t2, t3⟩ := wpl_trc r (m + 1) hr' _ _ K hskip
   refine ⟨(m, skipOut) :: tr, s', by simp [t1, List.range'_succ], ⟨o, h0, .inr ⟨g, rfl⟩, t2⟩, ?_⟩
   simpa [rdOf, wrOf, skipOut] using t3
end
theorem fire_sound {P : Program} {E : Env} {B : Base} {n : Nat} (ok : EnvOk P E) {base : Nat} {ops : Array Oper} {i : Nat} {o : Oper} (ho : ops[i]? = some o) (hd : ∀ t, o.dst = some t → t < n) {s : St} {a : Act} {w : World} (S : Sim B n s a w)
  {out : Out} (hf : Fires E base ops i o s out) {K : Act → World → Prop} {Q : Exit → Act → World → Prop} (hK : ∀ a' w', Sim B n (step s o.dst out) a' w' → K a' w') : wpOp P ops Q i K a w := by
 have hg : ∀ b, guardOf ops s.sl o = some b → Region.wanted o (yielded ops a.tmps) = b := fun b hb => by
  obtain ⟨ι, imm, e, I, h1, h2, h3⟩ := S
  exact guard_rep h3 hb
 unfold wpOp
 simp only [ho]
 rcases hf with ⟨g, h⟩ | ⟨g, rfl⟩
 ·rw [hg _ g]
  simp only [if_true]
  exact .inl (oper_sound ok S h hd fun out' a' w' e S' => by subst e; exact hK a' w' S')
 ·rw [hg _ g]
  simp only [Bool.false_eq_true, if_false]
  exact hK _ _ (skip_sound S hd)
def regOk (n : Nat) (ops : Array Oper) (draw : Bool) : Bool :=
 ops.toList.all (fun o => match o.dst with | some t => decide (t < n) | none => true) &&
 (!draw || ((List.range ops.size).all (fun i => match ops[i]? with | some o => o.after.toList.all fun e => !Region.binds .any e || decide (e.on < i) | none => true) &&
  (List.range ops.size).all fun i => (List.range ops.size).all fun j => i == j || ((ancM ops.toList).getD j 0).testBit i || ((ancM ops.toList).getD i 0).testBit j ||
   match ops[i]?, ops[j]? with | some x, some y => x.apart ops y | _, _ => true))
theorem regOk_dst {n : Nat} {ops : Array Oper} {draw : Bool} (h : regOk n ops draw = true) : ∀ (i : Nat) (o : Oper) (t : Tmp), ops[i]? = some o → o.dst = some t → t < n := fun i o t hi ht => by
 simp only [regOk, Bool.and_eq_true] at h
 have := List.all_eq_true.1 h.1 o (by have := List.mem_of_getElem? (l := ops.toList) (i := i) (by simpa using hi); exact this)
 rw [ht] at this
 simpa using this
theorem ancM_edges (acc : List (List Nat)) (accM : List Nat) (hA : ∀ j k, (accM.getD j 0).testBit k = true → k ∈ acc.getD j []) (k : Nat) : ∀ (es : List Edge) (m : Nat),
  (es.foldl (fun m e => m ||| (1 <<< e.on ||| accM.getD e.on 0)) m).testBit k = true → m.testBit k = true ∨ k ∈ es.flatMap fun e => e.on :: acc.getD e.on []
 | [], m, h => .inl h
 | e :: r, m, h => by
  rcases ancM_edges acc accM hA k r _ h with q | q
  ·rw [Nat.testBit_or, Nat.testBit_or, Bool.or_eq_true, Bool.or_eq_true] at q
   rcases q with q | q | q
   ·exact .inl q
   ·refine .inr ?_
    rw [Nat.testBit_shiftLeft] at q
    simp only [Bool.and_eq_true, decide_eq_true_eq] at q
    have : k - e.on = 0 := by
     rcases Nat.eq_zero_or_pos (k - e.on) with h | h
     ·exact h
     ·have := q.2
      rw [Nat.testBit_one_eq_true_iff_self_eq_zero] at this
      exact this
    have : k = e.on := by omega
    simp [this]
   ·exact .inr (by simp only [List.flatMap_cons, List.mem_append, List.mem_cons]; exact .inl (.inr (hA _ _ q)))
  ·exact .inr (by simp only [List.flatMap_cons, List.mem_append]; exact .inr q)
theorem ancM_fold : ∀ (l : List Oper) (acc : List (List Nat)) (accM : List Nat), acc.length = accM.length → (∀ j k, (accM.getD j 0).testBit k = true → k ∈ acc.getD j []) →
  ∀ j k, ((l.foldl (fun acc o => acc ++ [(o.after.toList.filter (Region.binds .any)).foldl (fun m e => m ||| (1 <<< e.on ||| acc.getD e.on 0)) 0]) accM).getD j 0).testBit k = true →
   k ∈ (l.foldl (fun acc o => acc ++ [(o.after.toList.filter (Region.binds .any)).flatMap fun e => e.on :: acc.getD e.on []]) acc).getD j []
 | [], acc, accM, _, h => h
 | o :: r, acc, accM, hl, h => by
  refine ancM_fold r _ _ (by simp [hl]) fun j k hk => ?_
  rcases Nat.lt_trichotomy j acc.length with q | q | q
  ·have h1 : j < accM.length := by omega
   simp only [List.getD_eq_getElem?_getD, List.getElem?_append_left h1, List.getElem?_append_left q] at hk ⊢
   have := h j k
   simp only [List.getD_eq_getElem?_getD] at this
   exact this hk
  ·subst q
   rw [List.getD_eq_getElem?_getD, hl, List.getElem?_concat_length] at hk
   rw [List.getD_eq_getElem?_getD, List.getElem?_concat_length]
   rcases ancM_edges acc accM h k _ 0 hk with q | q
   ·simp at q
   ·exact q
  ·rw [List.getD_eq_getElem?_getD, List.getElem?_eq_none (by simp; omega)] at hk
   simp at hk
theorem ancM_ok (l : List Oper) (j k : Nat) (h : ((ancM l).getD j 0).testBit k = true) : k ∈ (anc l).getD j [] := ancM_fold l [] [] rfl (by simp) j k h
def ancF (acc : List (List Nat)) (l : List Oper) : List (List Nat) :=
 l.foldl (fun acc o => acc ++ [(o.after.toList.filter (Region.binds .any)).flatMap fun e => e.on :: acc.getD e.on []]) acc
theorem ancF_prefix : ∀ (l : List Oper) (acc : List (List Nat)), ∃ q, ancF acc l = acc ++ q
 | [], acc => ⟨[], by simp [ancF]⟩
 | o :: r, acc => by
  obtain ⟨q, hq⟩ := ancF_prefix r (acc ++ [(o.after.toList.filter (Region.binds .any)).flatMap fun e => e.on :: acc.getD e.on []])
  have : ancF acc (o :: r) = ancF (acc ++ [(o.after.toList.filter (Region.binds .any)).flatMap fun e => e.on :: acc.getD e.on []]) r := rfl
  rw [this, hq, List.append_assoc]
  exact ⟨_, rfl⟩
theorem flatMap_congr' {α β : Type} {l : List α} {f g : α → List β} (h : ∀ x, x ∈ l → f x = g x) : l.flatMap f = l.flatMap g := by
 induction l with
 | nil => rfl
 | cons a r ih =>
  simp only [List.flatMap_cons]
  rw [h a (by simp), ih fun x hx => h x (by simp [hx])]
theorem ancF_get : ∀ (l : List Oper) (acc : List (List Nat)) (j : Nat) (o : Oper), l[j]? = some o → (∀ e, e ∈ o.after.toList → Region.binds .any e = true → e.on < acc.length + j) →
  (ancF acc l).getD (acc.length + j) [] = (o.after.toList.filter (Region.binds .any)).flatMap fun e => e.on :: (ancF acc l).getD e.on []
 | [], acc, j, o, h, _ => by simp at h
 | o' :: r, acc, j, o, h, he => by
  have hstep : ancF acc (o' :: r) = ancF (acc ++ [(o'.after.toList.filter (Region.binds .any)).flatMap fun e => e.on :: acc.getD e.on []]) r := rfl
  cases j with
  | zero =>
   simp at h
   subst h
   obtain ⟨q, hq⟩ := ancF_prefix r (acc ++ [(o'.after.toList.filter (Region.binds .any)).flatMap fun e => e.on :: acc.getD e.on []])
   rw [hstep, hq]
   have e1 : (acc ++ [(o'.after.toList.filter (Region.binds .any)).flatMap fun e => e.on :: acc.getD e.on []] ++ q).getD (acc.length + 0) [] = (o'.after.toList.filter (Region.binds .any)).flatMap fun e => e.on :: acc.getD e.on [] := by
    simp [List.getD, List.getElem?_append]
   rw [e1]
   refine flatMap_congr' fun e hm => ?_
   rw [List.mem_filter] at hm
   have hlt : e.on < acc.length := by have := he e hm.1 hm.2; omega
   congr 1
   simp [List.getD, List.getElem?_append, hlt, Nat.lt_succ_of_lt hlt]
  | succ j =>
   have := ancF_get r (acc ++ [(o'.after.toList.filter (Region.binds .any)).flatMap fun e => e.on :: acc.getD e.on []]) j o (by simpa using h) (fun e a b => by have := he e a b; simp; omega)
   rw [hstep]
   have e1 : acc.length + (j + 1) = (acc ++ [(o'.after.toList.filter (Region.binds .any)).flatMap fun e => e.on :: acc.getD e.on []]).length + j := by simp; omega
   rw [e1]
   exact this
theorem anc_get (l : List Oper) (j : Nat) (o : Oper) (h : l[j]? = some o) (he : ∀ e, e ∈ o.after.toList → Region.binds .any e = true → e.on < j) :
  (anc l).getD j [] = (o.after.toList.filter (Region.binds .any)).flatMap fun e => e.on :: (anc l).getD e.on [] := by
 have := ancF_get l [] j o h (by simpa using he)
 simpa [anc, ancF] using this
theorem anc_lt (l : List Oper) (hl : ∀ (j : Nat) (o : Oper), l[j]? = some o → ∀ e, e ∈ o.after.toList → Region.binds .any e = true → e.on < j) :
  ∀ (n j : Nat), j < n → ∀ i, i ∈ (anc l).getD j [] → i < j
 | 0, j, hj, _, _ => absurd hj (Nat.not_lt_zero _)
 | n + 1, j, hj, i, hi => by
  cases ho : l[j]? with
  | none =>
   have hlen : (anc l).length ≤ j := by
    have h1 : l.length ≤ j := by
     rcases Nat.lt_or_ge j l.length with q | q
     ·rw [List.getElem?_eq_getElem q] at ho; cases ho
     ·exact q
    have : ∀ (l : List Oper) (acc : List (List Nat)), (ancF acc l).length = acc.length + l.length := fun l => by
     induction l with
     | nil => intro acc; rfl
     | cons o r ih => intro acc; show (ancF (acc ++ [_]) r).length = _; rw [ih]; simp; omega
    have := this l []
    have e : anc l = ancF [] l := rfl
    rw [e, this]; simp; exact h1
   rw [List.getD_eq_getElem?_getD, List.getElem?_eq_none hlen] at hi
   cases hi
  | some o =>
   rw [anc_get l j o ho (hl j o ho)] at hi
   obtain ⟨e, he, hi⟩ := List.mem_flatMap.1 hi
   rw [List.mem_filter] at he
   have h1 := hl j o ho e he.1 he.2
   rcases List.mem_cons.1 hi with q | q
   ·subst q; exact h1
   ·have := anc_lt l hl n e.on (by omega) i q
    omega
theorem draw_sound {P : Program} {E : Env} {B : Base} {n : Nat} (ok : EnvOk P E) {base : Nat} {ops : Array Oper} (hd : ∀ (i : Nat) (o : Oper) (t : Tmp), ops[i]? = some o → o.dst = some t → t < n)
  (hl : ∀ (j : Nat) (o : Oper), ops.toList[j]? = some o → ∀ e, e ∈ o.after.toList → Region.binds .any e = true → e.on < j) {Q : Exit → Act → World → Prop} {s' : St} (hQ : ∀ a w, Sim B n s' a w → Q .normal a w) :
  ∀ (fuel : Nat) (tr : List (Nat × Out)) (listed : Array Bool) (s : St) (a : Act) (w : World), tr.length = fuel → Trc E base ops tr s s' → Sim B n s a w → listed.size = ops.size →
   (tr.map Prod.fst).Pairwise (· < ·) → (∀ i, i < ops.size → (listed.getD i true = false ↔ i ∈ tr.map Prod.fst)) →
   (∀ i, i < ops.size → listed.getD i true = true → ∀ k, k ∈ (anc ops.toList).getD i [] → listed.getD k false = true) →
   (∀ x y, x ∈ tr → y ∈ tr → x.1 < y.1 → x.1 ∉ (anc ops.toList).getD y.1 [] → Ind ops x y) →
   wpAny P .any ops Q fuel listed a w
 | 0, tr, listed, s, a, w, hlen, ht, S, hsz, _, hlist, _, _ => by
  have : tr = [] := List.eq_nil_of_length_eq_zero hlen
  subst this
  have : s' = s := ht
  subst this
  refine ⟨?_, hQ a w S⟩
  rw [List.eq_nil_iff_forall_not_mem]
  intro i hi
  rw [mem_ready] at hi
  obtain ⟨h0, o, ho, _⟩ := hi
  have hlt : i < ops.size := (Array.getElem?_eq_some_iff.1 ho).1
  have := (hlist i hlt).1 h0
  cases this
 | fuel + 1, tr, listed, s, a, w, hlen, ht, S, hsz, hpw, hlist, hdown, hind => by
  have hmem : ∀ x, x ∈ tr → x.1 < ops.size ∧ listed.getD x.1 true = false := fun x hx => by
   have hlt : x.1 < ops.size := by
    have key : ∀ (tr : List (Nat × Out)) (s : St), Trc E base ops tr s s' → ∀ x, x ∈ tr → x.1 < ops.size := fun tr => by
     induction tr with
     | nil => intro s _ x hx; cases hx
     | cons y r ih =>
      intro s ⟨o, ho, _, hr⟩ x hx
      rcases List.mem_cons.1 hx with q | q
      ·subst q; exact (Array.getElem?_eq_some_iff.1 ho).1
      ·exact ih _ hr x q
    exact key tr s ht x hx
   exact ⟨hlt, (hlist x.1 hlt).2 (List.mem_map.2 ⟨x, hx, rfl⟩)⟩
  refine ⟨fun hnil => ?_, fun i hi => ?_⟩
  ·-- the first one is ready
   exfalso
   cases tr with
   | nil => simp at hlen
   | cons x r =>
    obtain ⟨o, ho, _, _⟩ := ht
    have h0 := hmem x (by simp)
    have : x.1 ∈ Region.ready .any ops listed := by
     rw [mem_ready]
     refine ⟨h0.2, o, ho, fun e he hb => ?_⟩
     have hlt := hl x.1 o (by simpa using ho) e (by simpa using he) hb
     have h1 : e.on < ops.size := by omega
     have h2 : ¬ listed.getD e.on true = false := fun q => by
      obtain ⟨y, hy, hyx⟩ := List.mem_map.1 ((hlist e.on h1).1 q)
      rcases List.mem_cons.1 hy with q' | q'
      ·subst q'; omega
      ·have := (List.pairwise_cons.1 (by simpa using hpw)).1 y.1 (List.mem_map.2 ⟨y, q', rfl⟩)
       omega
     have h3 : e.on < listed.size := by omega
     simp only [Array.getD_eq_getD_getElem?, Array.getElem?_eq_getElem h3, Option.getD_some, Bool.not_eq_false] at h2 ⊢
     exact h2
    rw [hnil] at this; cases this
  ·have hi' := hi
   rw [mem_ready] at hi
   obtain ⟨h0, o, ho, hdeps⟩ := hi
   have hlt : i < ops.size := (Array.getElem?_eq_some_iff.1 ho).1
   obtain ⟨x, hx, hxi⟩ := List.mem_map.1 ((hlist i hlt).1 h0)
   subst hxi
   obtain ⟨pre, post, rfl⟩ := List.append_of_mem hx
   have hanc : ∀ k, k ∈ (anc ops.toList).getD x.1 [] → listed.getD k false = true := fun k hk => by
    rw [anc_get ops.toList x.1 o (by simpa using ho) (hl x.1 o (by simpa using ho))] at hk
    obtain ⟨e, he, hk⟩ := List.mem_flatMap.1 hk
    rw [List.mem_filter] at he
    have h1 := hdeps e (by simpa using he.1) he.2
    rcases List.mem_cons.1 hk with q | q
    ·subst q; exact h1
    ·have h2 := hl x.1 o (by simpa using ho) e he.1 he.2
     have h3 : e.on < listed.size := by omega
     refine hdown e.on (by omega) ?_ k q
     simp only [Array.getD_eq_getD_getElem?, Array.getElem?_eq_getElem h3, Option.getD_some] at h1 ⊢
     exact h1
   have hpw' : ∀ y, y ∈ pre → y.1 < x.1 := fun y hy => by
    rw [List.map_append, List.map_cons] at hpw
    exact (List.pairwise_append.1 hpw).2.2 y.1 (List.mem_map.2 ⟨y, hy, rfl⟩) x.1 (by simp)
   have hfirst := Trc.first pre x post s (fun y hy => hind y x (by simp [hy]) (by simp) (hpw' y hy) fun q => by
    have h1 := hanc y.1 q
    have h2 := (hmem y (by simp [hy])).2
    have h3 := (hmem y (by simp [hy])).1
    have h4 : y.1 < listed.size := by omega
    simp only [Array.getD_eq_getD_getElem?, Array.getElem?_eq_getElem h4, Option.getD_some] at h1 h2
    rw [h1] at h2; cases h2) ht
   obtain ⟨o', ho', hfire, hrest⟩ := hfirst
   rw [ho] at ho'; cases ho'
   refine fire_sound ok ho (fun t ht => hd x.1 o t ho ht) S hfire fun a' w' S' => ?_
   have hnd : x.1 ∉ (pre ++ post).map Prod.fst := fun q => by
    rw [List.map_append, List.map_cons] at hpw
    obtain ⟨p1, p2, p3⟩ := List.pairwise_append.1 hpw
    rw [List.map_append, List.mem_append] at q
    rcases q with q | q
    ·have := p3 x.1 q x.1 (by simp); omega
    ·have := (List.pairwise_cons.1 p2).1 x.1 q; omega
   refine draw_sound ok hd hl hQ fuel (pre ++ post) (listed.setIfInBounds x.1 true) _ a' w' (by simp at hlen ⊢; omega) hrest S' (by simp [hsz]) ?_ (fun j hj => ?_) (fun j hj hjt k hk => ?_) (fun y z hy hz => hind y z (by simp only [List.mem_append, List.mem_cons] at hy ⊢; rcases hy with q | q <;> simp [q]) (by simp only [List.mem_append, List.mem_cons] at hz ⊢; rcases hz with q | q <;> simp [q]))
   ·refine hpw.sublist ?_
    rw [List.map_append, List.map_append, List.map_cons]
    exact List.Sublist.append_left (List.sublist_cons_self _ _) _
   ·by_cases c : j = x.1
    ·subst c
     have : (listed.setIfInBounds x.1 true).getD x.1 true = true := by
      have : x.1 < listed.size := by omega
      simp [Array.getD, this]
     rw [this]
     exact ⟨fun q => (by cases q), fun q => absurd q hnd⟩
    ·rw [getD_set_ne true (Ne.symm c), hlist j hj]
     simp only [List.map_append, List.map_cons, List.mem_append, List.mem_cons]
     constructor
     ·rintro (q | q | q)
      ·exact .inl q
      ·exact absurd q c
      ·exact .inr q
     ·rintro (q | q)
      ·exact .inl q
      ·exact .inr (.inr q)
   ·by_cases c : j = x.1
    ·subst c
     exact getD_set_true (hanc k hk)
    ·rw [getD_set_ne true (Ne.symm c)] at hjt
     exact getD_set_true (hdown j hj hjt k hk)
end Go.K
end
