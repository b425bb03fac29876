/-
  Parts of the proof, joined by a program of this work: KOp, KSim, KDraw, KWp, KFn, KSeat, KSpec, KNat, KTrim, KBits, KLow, KMul.
-/
import Derived.Test.YtbemciakckdjlaaKa
import Derived.Deep.LoopGhost
import Derived.Test.YtbemciakckdjlaaProg
import Derived.KernelRfl
section
/-
  K, part 15: every operation; what an operation looks at. No macro, syntax, notation, axiom, sorry.
-/
namespace Go.K
open Go
set_option linter.unusedSectionVars false
set_option linter.unusedVariables false
set_option linter.unusedSimpArgs false
set_option linter.unnecessarySimpa false

section
variable {ι : Nat → Option Value} {imm : Nat → Prop} {h : Heap} {w : World} {K : Out → Prop}
variable {P : Program} {E : Env} {draw : Bool} {ev : Operand → V} {ρ : Operand → Value} {o : Oper} {id : Nat}

theorem op_sound (ok : EnvOk P E) (I : Inv ι imm h w) (he : ∀ x, RepV ι imm w (ev x) (ρ x)) (hK : opR Ω E draw ev h o.op id K) : OpDone P ι imm h w K ((execOp ρ o).run P w) := by
  have tt := ok.tt
  cases ho : o.op with
  | move x => exact .inl (op_move I he ho hK)
  | assign x => exact .inl (op_assign I he ho hK)
  | pick c a b => exact .inl (op_pick I he ho hK)
  | nilCheck x => exact .inl (op_nilCheck I he ho hK)
  | alloc T => exact .inl (op_alloc I tt he ho hK)
  | box T x => exact .inl (op_box I he ho hK)
  | store T x y => exact .inl (op_store I tt he ho hK)
  | load T x => exact .inl (op_load I tt he ho hK)
  | fieldAddr T x f => exact .inl (op_fieldAddr I tt he ho hK)
  | field T x f => exact .inl (op_field I tt he ho hK)
  | index T x y => exact .inl (op_index I tt he ho hK)
  | indexAddr T x y => exact .inl (op_indexAddr I tt he ho hK)
  | slice T x lo hi mx => exact .inl (op_slice I tt he ho hK)
  | build T parts => exact .inl (op_build I tt he ho hK)
  | buildSlice T len parts => exact .inl (op_buildSlice I tt he ho hK)
  | makeSlice T l c => exact .inl (op_makeSlice I tt he ho hK)
  | binOp op T x y U => exact .inl (op_binOp I tt he ho hK)
  | unOp op T x => exact .inl (op_unOp I tt he ho hK)
  | convert S T x => exact .inl (op_convert I tt he ho hK)
  | extract x k => exact .inl (op_extract I he ho hK)
  | makeInterface T x => exact .inl (op_makeInterface I tt he ho hK)
  | call c =>
    obtain ⟨callee, args, ts⟩ := c
    cases callee with
    | value f =>
      rw [ho] at hK
      simp only [opR, w_slen, w_sget, w_ssub, w_sset, w_srep, w_scat, BrG_eq, DK_eq, w_ci, w_iand, w_ior, w_ixor, w_ishl, w_ishr, w_wrap, w_tmod, w_lt, w_le, w_eq, w_ne, w_ile, w_ilt, w_tn, w_nadd, w_nsub, w_nlt, w_leb, w_room, w_imax, w_imin] at hK
      split at hK
      · rename_i g hf
        split at hK
        · split at hK
          · rename_i bs hb
            obtain ⟨r, bs', hC, hn, hl, hσ, hK⟩ := hK
            have h1 := (getAll_ok _ _ hb).1
            have hm := (ok.C2 g _ _ r bs' hC)
            exact op_callRef I ok he ho hf hb hC hn (newIds_nodup _ _) hl (by simp [newIds]) hσ hK
          · exact hK.elim
        · split at hK
          · rename_i ds hd
            obtain ⟨r, hC, hK⟩ := hK
            exact op_callPure I ok he ho hf hd hC hK
          · exact hK.elim
      · exact hK.elim
    | invoke r m => rw [ho] at hK; simp only [opR, w_slen, w_sget, w_ssub, w_sset, w_srep, w_scat, BrG_eq, DK_eq, w_ci, w_iand, w_ior, w_ixor, w_ishl, w_ishr, w_wrap, w_tmod, w_lt, w_le, w_eq, w_ne, w_ile, w_ilt, w_tn, w_nadd, w_nsub, w_nlt, w_leb, w_room, w_imax, w_imin] at hK
    | builtin b =>
      cases b with
      | len => exact .inl (op_len I tt he ho hK)
      | append => exact .inl (op_append I tt he ho hK)
      | max => exact .inl (op_max I tt he ho hK)
      | min => exact .inl (op_min I tt he ho hK)
      | _ =>
        rw [ho] at hK; simp only [opR, w_slen, w_sget, w_ssub, w_sset, w_srep, w_scat, BrG_eq, DK_eq, w_ci, w_iand, w_ior, w_ixor, w_ishl, w_ishr, w_wrap, w_tmod, w_lt, w_le, w_eq, w_ne, w_ile, w_ilt, w_tn, w_nadd, w_nsub, w_nlt, w_leb, w_room, w_imax, w_imin] at hK
  | _ => rw [ho] at hK; simp only [opR, w_slen, w_sget, w_ssub, w_sset, w_srep, w_scat, BrG_eq, DK_eq, w_ci, w_iand, w_ior, w_ixor, w_ishl, w_ishr, w_wrap, w_tmod, w_lt, w_le, w_eq, w_ne, w_ile, w_ilt, w_tn, w_nadd, w_nsub, w_nlt, w_leb, w_room, w_imax, w_imin] at hK

/-- what is shown of some outcome is shown of one -/
theorem opR_ex (hd : draw = true) (hK : opR Ω E draw ev h o.op id K) : ∃ out, opR Ω E draw ev h o.op id (fun x => x = out) ∧ K out := by
  subst hd
  cases ho : o.op with
  | pick c a b =>
    rw [ho] at hK
    simp only [opR, w_slen, w_sget, w_ssub, w_sset, w_srep, w_scat, BrG_eq, DK_eq, w_ci, w_iand, w_ior, w_ixor, w_ishl, w_ishr, w_wrap, w_tmod, w_lt, w_le, w_eq, w_ne, w_ile, w_ilt, w_tn, w_nadd, w_nsub, w_nlt, w_leb, w_room, w_imax, w_imin] at hK ⊢
    split at hK
    · exact ⟨_, rfl, hK⟩
    · exact hK.elim
  | unOp op T x =>
    rw [ho] at hK
    simp only [opR, w_slen, w_sget, w_ssub, w_sset, w_srep, w_scat, BrG_eq, DK_eq, w_ci, w_iand, w_ior, w_ixor, w_ishl, w_ishr, w_wrap, w_tmod, w_lt, w_le, w_eq, w_ne, w_ile, w_ilt, w_tn, w_nadd, w_nsub, w_nlt, w_leb, w_room, w_imax, w_imin] at hK ⊢
    split at hK
    · exact ⟨_, rfl, hK⟩
    · exact ⟨_, rfl, hK⟩
    · exact ⟨_, rfl, hK⟩
    · exact hK.elim
  | load T x =>
    rw [ho] at hK
    simp only [opR, w_slen, w_sget, w_ssub, w_sset, w_srep, w_scat, BrG_eq, DK_eq, w_ci, w_iand, w_ior, w_ixor, w_ishl, w_ishr, w_wrap, w_tmod, w_lt, w_le, w_eq, w_ne, w_ile, w_ilt, w_tn, w_nadd, w_nsub, w_nlt, w_leb, w_room, w_imax, w_imin] at hK ⊢
    split at hK
    · split at hK
      · obtain ⟨a1, a2, hK⟩ := hK; exact ⟨_, ⟨a1, a2, rfl⟩, hK⟩
      · exact hK.elim
    · split at hK
      · obtain ⟨a1, x, a2, a3, a4, hK⟩ := hK; exact ⟨_, ⟨a1, x, a2, a3, a4, rfl⟩, hK⟩
      · exact hK.elim
    · obtain ⟨a1, a2, a3, hK⟩ := hK; exact ⟨_, ⟨a1, a2, a3, rfl⟩, hK⟩
    · exact hK.elim
  | buildSlice T len parts =>
    rw [ho] at hK
    simp only [opR, w_slen, w_sget, w_ssub, w_sset, w_srep, w_scat, BrG_eq, DK_eq, w_ci, w_iand, w_ior, w_ixor, w_ishl, w_ishr, w_wrap, w_tmod, w_lt, w_le, w_eq, w_ne, w_ile, w_ilt, w_tn, w_nadd, w_nsub, w_nlt, w_leb, w_room, w_imax, w_imin] at hK ⊢
    split at hK
    · split at hK
      · split at hK
        · split at hK
          · obtain ⟨a1, a2, a3, a4, hK⟩ := hK
            simp only [if_true] at hK ⊢
            exact ⟨_, ⟨a1, a2, a3, a4, rfl⟩, hK⟩
          · exact hK.elim
        · exact hK.elim
      · exact hK.elim
    · exact hK.elim
  | call c =>
    obtain ⟨callee, args, ts⟩ := c
    cases callee with
    | invoke r m => rw [ho] at hK; simp only [opR, w_slen, w_sget, w_ssub, w_sset, w_srep, w_scat, BrG_eq, DK_eq, w_ci, w_iand, w_ior, w_ixor, w_ishl, w_ishr, w_wrap, w_tmod, w_lt, w_le, w_eq, w_ne, w_ile, w_ilt, w_tn, w_nadd, w_nsub, w_nlt, w_leb, w_room, w_imax, w_imin] at hK
    | value f =>
      rw [ho] at hK
      simp only [opR, w_slen, w_sget, w_ssub, w_sset, w_srep, w_scat, BrG_eq, DK_eq, w_ci, w_iand, w_ior, w_ixor, w_ishl, w_ishr, w_wrap, w_tmod, w_lt, w_le, w_eq, w_ne, w_ile, w_ilt, w_tn, w_nadd, w_nsub, w_nlt, w_leb, w_room, w_imax, w_imin] at hK ⊢
      split at hK
      · split at hK
        · rename_i hm
          simp only [hm, if_true]
          split at hK
          · obtain ⟨r, bs', a1, a2, a3, a4, hK⟩ := hK
            exact ⟨_, ⟨r, bs', a1, a2, a3, a4, rfl⟩, hK⟩
          · exact hK.elim
        · rename_i hm
          simp only [hm]
          split at hK
          · obtain ⟨r, a1, hK⟩ := hK
            exact ⟨_, ⟨r, a1, rfl⟩, hK⟩
          · exact hK.elim
      · exact hK.elim
    | builtin b =>
      cases b with
      | len =>
        rw [ho] at hK
        simp only [opR, w_slen, w_sget, w_ssub, w_sset, w_srep, w_scat, BrG_eq, DK_eq, w_ci, w_iand, w_ior, w_ixor, w_ishl, w_ishr, w_wrap, w_tmod, w_lt, w_le, w_eq, w_ne, w_ile, w_ilt, w_tn, w_nadd, w_nsub, w_nlt, w_leb, w_room, w_imax, w_imin] at hK ⊢
        split at hK
        · repeat' split at hK
          all_goals first
            | exact hK.elim
            | exact ⟨_, rfl, hK⟩
        · rename_i q _ _; cases q
        · exact hK.elim
      | append =>
        rw [ho] at hK
        simp only [opR, w_slen, w_sget, w_ssub, w_sset, w_srep, w_scat, BrG_eq, DK_eq, w_ci, w_iand, w_ior, w_ixor, w_ishl, w_ishr, w_wrap, w_tmod, w_lt, w_le, w_eq, w_ne, w_ile, w_ilt, w_tn, w_nadd, w_nsub, w_nlt, w_leb, w_room, w_imax, w_imin] at hK ⊢
        split at hK
        · rename_i q _ _; cases q
        · split at hK
          · split at hK
            · obtain ⟨a1, a2, a3, hK⟩ := hK
              split at hK
              · obtain ⟨a4, a5, hK⟩ := hK
                split at hK
                · obtain ⟨a6, hK⟩ := hK
                  exact ⟨_, ⟨a1, a2, a3, a4, a5, a6, rfl⟩, hK⟩
                · split at hK
                  · obtain ⟨b1, b2, b3, b4, hK⟩ := hK
                    exact ⟨_, ⟨a1, a2, a3, a4, a5, b1, b2, b3, b4, rfl⟩, hK⟩
                  · exact hK.elim
                · exact hK.elim
              · exact hK.elim
            · exact hK.elim
          · exact hK.elim
        · exact hK.elim
      | max =>
        rw [ho] at hK
        simp only [opR] at hK ⊢
        split at hK
        · obtain ⟨a1, hK⟩ := hK; exact ⟨_, ⟨a1, rfl⟩, hK⟩
        · exact hK.elim
      | min =>
        rw [ho] at hK
        simp only [opR] at hK ⊢
        split at hK
        · obtain ⟨a1, hK⟩ := hK; exact ⟨_, ⟨a1, rfl⟩, hK⟩
        · exact hK.elim
      | _ => rw [ho] at hK; simp only [opR, w_slen, w_sget, w_ssub, w_sset, w_srep, w_scat, BrG_eq, DK_eq, w_ci, w_iand, w_ior, w_ixor, w_ishl, w_ishr, w_wrap, w_tmod, w_lt, w_le, w_eq, w_ne, w_ile, w_ilt, w_tn, w_nadd, w_nsub, w_nlt, w_leb, w_room, w_imax, w_imin] at hK
  | slice T x lo hi mx =>
    rw [ho] at hK
    simp only [opR] at hK ⊢
    by_cases c : lo = none ∧ mx.isSome = true
    · simp only [if_pos c] at hK ⊢
      repeat' split at hK
      all_goals first
        | exact hK.elim
        | (obtain ⟨a1, a2, a3, a4, hK⟩ := hK; exact ⟨_, ⟨a1, a2, a3, a4, rfl⟩, hK⟩)
        | (obtain ⟨a1, a2, a3, a4, a5, hK⟩ := hK; exact ⟨_, ⟨a1, a2, a3, a4, a5, rfl⟩, hK⟩)
        | (obtain ⟨a1, a2, a3, a4, a5, a6, hK⟩ := hK; exact ⟨_, ⟨a1, a2, a3, a4, a5, a6, rfl⟩, hK⟩)
        | (obtain ⟨a1, a2, a3, a4, a5, a6, a7, hK⟩ := hK; exact ⟨_, ⟨a1, a2, a3, a4, a5, a6, a7, rfl⟩, hK⟩)
    · simp only [if_neg c] at hK ⊢
      repeat' split at hK
      all_goals first
        | exact hK.elim
        | (obtain ⟨a1, a2, a3, a4, hK⟩ := hK; exact ⟨_, ⟨a1, a2, a3, a4, rfl⟩, hK⟩)
        | (obtain ⟨a1, a2, a3, a4, a5, hK⟩ := hK; exact ⟨_, ⟨a1, a2, a3, a4, a5, rfl⟩, hK⟩)
        | (obtain ⟨a1, a2, a3, a4, a5, a6, hK⟩ := hK; exact ⟨_, ⟨a1, a2, a3, a4, a5, a6, rfl⟩, hK⟩)
        | (obtain ⟨a1, a2, a3, a4, a5, a6, a7, hK⟩ := hK; exact ⟨_, ⟨a1, a2, a3, a4, a5, a6, a7, rfl⟩, hK⟩)
  | _ =>
    rw [ho] at hK
    simp only [opR, w_slen, w_sget, w_ssub, w_sset, w_srep, w_scat, BrG_eq, DK_eq, w_ci, w_iand, w_ior, w_ixor, w_ishl, w_ishr, w_wrap, w_tmod, w_lt, w_le, w_eq, w_ne, w_ile, w_ilt, w_tn, w_nadd, w_nsub, w_nlt, w_leb, w_room, w_imax, w_imin] at hK ⊢
    repeat' split at hK
    all_goals first
      | exact hK.elim
      | exact ⟨_, rfl, hK⟩
      | (obtain ⟨a1, hK⟩ := hK; exact ⟨_, ⟨a1, rfl⟩, hK⟩)
      | (obtain ⟨a1, a2, hK⟩ := hK; exact ⟨_, ⟨a1, a2, rfl⟩, hK⟩)
      | (obtain ⟨a1, a2, a3, hK⟩ := hK; exact ⟨_, ⟨a1, a2, a3, rfl⟩, hK⟩)
      | (obtain ⟨a1, a2, a3, a4, hK⟩ := hK; exact ⟨_, ⟨a1, a2, a3, a4, rfl⟩, hK⟩)
      | (obtain ⟨a1, a2, a3, a4, a5, hK⟩ := hK; exact ⟨_, ⟨a1, a2, a3, a4, a5, rfl⟩, hK⟩)
      | (obtain ⟨a1, a2, a3, a4, a5, a6, hK⟩ := hK; exact ⟨_, ⟨a1, a2, a3, a4, a5, a6, rfl⟩, hK⟩)
      | (obtain ⟨a1, a2, a3, a4, a5, a6, a7, hK⟩ := hK; exact ⟨_, ⟨a1, a2, a3, a4, a5, a6, a7, rfl⟩, hK⟩)
      | (obtain ⟨a1, a2, a3, a4, a5, a6, a7, a8, hK⟩ := hK; exact ⟨_, ⟨a1, a2, a3, a4, a5, a6, a7, a8, rfl⟩, hK⟩)
      | (obtain ⟨a1, x, a2, hK⟩ := hK; exact ⟨_, ⟨a1, x, a2, rfl⟩, hK⟩)
      | (obtain ⟨a1, x, a2, a3, hK⟩ := hK; exact ⟨_, ⟨a1, x, a2, a3, rfl⟩, hK⟩)
      | (cases hK.1)
      | exact hK.2.elim


theorem idsOf_constV (z : Value) : idsOf (constV z) = [] := by
  have one : ∀ y, ids1 (const1 y) = [] := fun y => by
    unfold const1; split <;> rfl
  unfold constV
  split
  · split
    · simp only [idsOf]
      rename_i cs _
      have : ∀ l : List Value, (l.map const1).flatMap ids1 = [] := fun l => by
        induction l with
        | nil => rfl
        | cons a r ih => simp only [List.map_cons, List.flatMap_cons, one, ih, List.append_nil]
      exact this _
    · rfl
  · rename_i v hv
    have h0 := one z
    generalize hq : const1 z = q at h0
    cases q with
    | agg cs => exfalso; unfold const1 at hq; split at hq <;> cases hq
    | _ => exact h0

theorem toD1_local {h2 : Heap} {x : V} (ha : ∀ j, j ∈ ids1 x → h2 j = h j) : toD1 Ω h2 x = toD1 Ω h x := by
  cases x with
  | own i sz => simp only [toD1, ha i (by simp [ids1])]
  | ref i sz off len => simp only [toD1, ha i (by simp [ids1])]
  | _ => rfl
theorem allD_local {h2 : Heap} : ∀ (l : List V), (∀ j, j ∈ l.flatMap ids1 → h2 j = h j) → allD Ω h2 l = allD Ω h l
  | [], _ => rfl
  | a :: r, ha => by
    simp only [allD]
    rw [toD1_local fun j hj => ha j (by simp [hj]), allD_local r fun j hj => ha j (by simp only [List.flatMap_cons, List.mem_append]; exact .inr hj)]
theorem toD_local {h2 : Heap} {x : V} (ha : ∀ j, j ∈ idsOf x → h2 j = h j) : toD Ω h2 x = toD Ω h x := by
  cases x with
  | agg cs => simp only [toD, allD_local cs ha]
  | own i sz => exact toD1_local (x := .own i sz) ha
  | ref i sz off len => exact toD1_local (x := .ref i sz off len) ha
  | _ => rfl
theorem toDs_local {h2 : Heap} : ∀ (l : List V), (∀ j, j ∈ l.flatMap idsOf → h2 j = h j) → toDs Ω h2 l = toDs Ω h l
  | [], _ => rfl
  | a :: r, ha => by
    simp only [toDs]
    rw [toD_local fun j hj => ha j (by simp [hj]), toDs_local r fun j hj => ha j (by simp only [List.flatMap_cons, List.mem_append]; exact .inr hj)]
theorem partsD_local {h2 : Heap} : ∀ (l : List (Nat × V)), (∀ j, j ∈ (l.map Prod.snd).flatMap idsOf → h2 j = h j) → partsD Ω h2 l = partsD Ω h l
  | [], _ => rfl
  | (i, a) :: r, ha => by
    simp only [partsD]
    rw [toD_local fun j hj => ha j (by simp [hj]), partsD_local r fun j hj => ha j (by simp only [List.map_cons, List.flatMap_cons, List.mem_append]; exact .inr hj)]
theorem freezeL_local {h2 : Heap} : ∀ (l : List Nat), (∀ j, j ∈ l → h2 j = h j) → freezeL h2 l = freezeL h l
  | [], _ => rfl
  | a :: r, ha => by
    simp only [freezeL]
    rw [ha a (by simp), freezeL_local r fun j hj => ha j (by simp [hj])]
theorem getAll_local {h2 : Heap} : ∀ (l : List Nat), (∀ j, j ∈ l → h2 j = h j) → getAll h2 l = getAll h l
  | [], _ => rfl
  | a :: r, ha => by
    simp only [getAll]
    rw [ha a (by simp), getAll_local r fun j hj => ha j (by simp [hj])]
theorem allNew_local {h2 : Heap} : ∀ (l : List Nat), (∀ j, j ∈ l → h2 j = h j) → allNew h l → allNew h2 l
  | [], _, _ => trivial
  | a :: r, ha, hn => ⟨(ha a (by simp)).trans hn.1, allNew_local r (fun j hj => ha j (by simp [hj])) hn.2⟩
theorem reach_mono {h2 : Heap} : ∀ (n : Nat) (l acc : List Nat), ∀ j, j ∈ acc → j ∈ reach h n l acc
  | 0, _, _, _, hj => hj
  | _ + 1, [], _, _, hj => hj
  | n + 1, i :: r, acc, j, hj => by
    simp only [reach]
    split
    · exact reach_mono (h2 := h2) n r acc j hj
    · split
      · exact reach_mono (h2 := h2) n _ _ j (by simp [hj])
      · exact reach_mono (h2 := h2) n _ _ j (by simp [hj])
theorem reach_local {h2 : Heap} : ∀ (n : Nat) (l acc : List Nat), (∀ j, j ∈ reach h n l acc → h2 j = h j) → reach h2 n l acc = reach h n l acc
  | 0, _, _, _ => rfl
  | _ + 1, [], _, _ => rfl
  | n + 1, i :: r, acc, ha => by
    simp only [reach] at ha ⊢
    by_cases c : acc.contains i = true
    · simp only [if_pos c] at ha ⊢
      exact reach_local n r acc ha
    · simp only [if_neg c] at ha ⊢
      have hi : h2 i = h i := by
        refine ha i ?_
        split
        · exact reach_mono (h2 := h2) n _ _ i (by simp)
        · exact reach_mono (h2 := h2) n _ _ i (by simp)
      rw [hi]
      split
      · rename_i cs hcs
        refine reach_local n _ _ fun j hj => ha j ?_
        rw [hcs]; exact hj
      · rename_i hne
        refine reach_local n _ _ fun j hj => ha j ?_
        split
        · rename_i cs hcs; exact absurd hcs (hne cs)
        · exact hj

/-- what an operation comes to hangs on the blocks alone that it looks at -/
theorem opR_local {h2 : Heap} {out : Out} (hK : opR Ω E draw ev h o.op id (fun x => x = out)) (ha : ∀ j, j ∈ out.rd → h2 j = h j) : opR Ω E draw ev h2 o.op id (fun x => x = out) := by
  cases ho : o.op with
  | alloc T =>
    rw [ho] at hK
    simp only [opR, w_slen, w_sget, w_ssub, w_sset, w_srep, w_scat, BrG_eq, DK_eq, w_ci, w_iand, w_ior, w_ixor, w_ishl, w_ishr, w_wrap, w_tmod, w_lt, w_le, w_eq, w_ne, w_ile, w_ilt, w_tn, w_nadd, w_nsub, w_nlt, w_leb, w_room, w_imax, w_imin] at hK ⊢
    split at hK
    · split at hK
      · obtain ⟨a1, rfl⟩ := hK
        exact ⟨(ha id (by simp)).trans a1, rfl⟩
      · exact hK.elim
    · exact hK.elim
  | box T x =>
    rw [ho] at hK
    simp only [opR, w_slen, w_sget, w_ssub, w_sset, w_srep, w_scat, BrG_eq, DK_eq, w_ci, w_iand, w_ior, w_ixor, w_ishl, w_ishr, w_wrap, w_tmod, w_lt, w_le, w_eq, w_ne, w_ile, w_ilt, w_tn, w_nadd, w_nsub, w_nlt, w_leb, w_room, w_imax, w_imin] at hK ⊢
    split at hK
    · obtain ⟨a1, rfl⟩ := hK
      exact ⟨(ha id (by simp)).trans a1, rfl⟩
    · exact hK.elim
  | store T x y =>
    rw [ho] at hK
    simp only [opR, w_slen, w_sget, w_ssub, w_sset, w_srep, w_scat, BrG_eq, DK_eq, w_ci, w_iand, w_ior, w_ixor, w_ishl, w_ishr, w_wrap, w_tmod, w_lt, w_le, w_eq, w_ne, w_ile, w_ilt, w_tn, w_nadd, w_nsub, w_nlt, w_leb, w_room, w_imax, w_imin] at hK ⊢
    split at hK
    · split at hK
      · rename_i hj
        split at hK
        · obtain ⟨a1, a2, rfl⟩ := hK
          have := ha _ (List.Mem.head _)
          simp only [this, hj]
          exact ⟨a1, a2, trivial⟩
        · exact hK.elim
      · exact hK.elim
    · split at hK
      · rename_i hj
        split at hK
        · rename_i hy
          obtain ⟨a1, a2, a3, a4, a5, a6, rfl⟩ := hK
          have h1 := ha _ (List.Mem.head _)
          have h2' : toD Ω h2 (ev y) = toD Ω h (ev y) := toD_local fun j hj => ha j (List.Mem.tail _ hj)
          have h3 : freezeL h2 (idsOf (ev y)) = freezeL h (idsOf (ev y)) := freezeL_local _ fun j hj => ha j (List.Mem.tail _ hj)
          simp only [h1, hj, h2', hy, h3]
          exact ⟨a1, a2, a3, a4, a5, a6, trivial⟩
        · exact hK.elim
      · exact hK.elim
    · exact hK.elim
  | load T x =>
    rw [ho] at hK
    simp only [opR, w_slen, w_sget, w_ssub, w_sset, w_srep, w_scat, BrG_eq, DK_eq, w_ci, w_iand, w_ior, w_ixor, w_ishl, w_ishr, w_wrap, w_tmod, w_lt, w_le, w_eq, w_ne, w_ile, w_ilt, w_tn, w_nadd, w_nsub, w_nlt, w_leb, w_room, w_imax, w_imin] at hK ⊢
    split at hK
    · split at hK
      · rename_i hj
        obtain ⟨a1, a2, rfl⟩ := hK
        have := ha _ (List.Mem.head _)
        simp only [this, hj]
        exact ⟨a1, a2, trivial⟩
      · exact hK.elim
    · split at hK
      · rename_i hj
        obtain ⟨a1, x, a2, a3, a4, rfl⟩ := hK
        have := ha _ (List.Mem.head _)
        simp only [this, hj]
        exact ⟨a1, x, a2, a3, a4, rfl⟩
      · exact hK.elim
    · exact hK
    · exact hK.elim
  | indexAddr T x y =>
    rw [ho] at hK
    simp only [opR, w_slen, w_sget, w_ssub, w_sset, w_srep, w_scat, BrG_eq, DK_eq, w_ci, w_iand, w_ior, w_ixor, w_ishl, w_ishr, w_wrap, w_tmod, w_lt, w_le, w_eq, w_ne, w_ile, w_ilt, w_tn, w_nadd, w_nsub, w_nlt, w_leb, w_room, w_imax, w_imin] at hK ⊢
    split at hK
    · exact hK
    · split at hK
      · split at hK
        · exact hK
        · split at hK
          · rename_i hj
            obtain ⟨a1, a2, a3, a4, rfl⟩ := hK
            have := ha _ (List.Mem.head _)
            simp only [this, hj]
            exact ⟨a1, a2, a3, a4, trivial⟩
          · exact hK.elim
        · exact hK
        · exact hK.elim
      · exact hK.elim
    · exact hK.elim
  | slice T x lo hi mx =>
    rw [ho] at hK
    simp only [opR, w_slen, w_sget, w_ssub, w_sset, w_srep, w_scat, BrG_eq, DK_eq, w_ci, w_iand, w_ior, w_ixor, w_ishl, w_ishr, w_wrap, w_tmod, w_lt, w_le, w_eq, w_ne, w_ile, w_ilt, w_tn, w_nadd, w_nsub, w_nlt, w_leb, w_room, w_imax, w_imin] at hK ⊢
    split at hK
    · split at hK
      · split at hK
        · exact hK
        · split at hK
          · rename_i hj
            split at hK
            · rename_i c
              split at hK
              · rename_i q1 q2
                obtain ⟨a1, a2, a3, a4, a5, a6, a7, rfl⟩ := hK
                have g1 := ha _ (List.Mem.head _)
                have g2 := ha _ (List.Mem.tail _ (List.Mem.head _))
                simp only [g2, hj, if_pos c, q1, q2]
                exact ⟨a1, a2, a3, a4, a5, a6, g1.trans a7, trivial⟩
              · exact hK.elim
            · rename_i c
              split at hK
              · rename_i q1 q2 q3
                obtain ⟨a1, a2, a3, a4, a5, a6, a7, rfl⟩ := hK
                have := ha _ (List.Mem.head _)
                simp only [this, hj, if_neg c, q1, q2, q3]
                exact ⟨a1, a2, a3, a4, a5, a6, a7, trivial⟩
              · exact hK.elim
          · exact hK.elim
        · exact hK
        · exact hK.elim
      · exact hK.elim
    · exact hK
    · exact hK.elim
  | buildSlice T len parts =>
    rw [ho] at hK
    simp only [opR, w_slen, w_sget, w_ssub, w_sset, w_srep, w_scat, BrG_eq, DK_eq, w_ci, w_iand, w_ior, w_ixor, w_ishl, w_ishr, w_wrap, w_tmod, w_lt, w_le, w_eq, w_ne, w_ile, w_ilt, w_tn, w_nadd, w_nsub, w_nlt, w_leb, w_room, w_imax, w_imin] at hK ⊢
    split at hK
    · split at hK
      · split at hK
        · rename_i q1
          split at hK
          · rename_i q2
            obtain ⟨a1, a2, a3, a4, hK⟩ := hK
            have key : (∀ j, j ∈ (parts.toList.map fun p => ev p.2).flatMap idsOf → h2 j = h j) → partsD Ω h2 (parts.toList.map fun p => (p.1, ev p.2)) = partsD Ω h (parts.toList.map fun p => (p.1, ev p.2)) ∧
                freezeL h2 ((parts.toList.map fun p => ev p.2).flatMap idsOf) = freezeL h ((parts.toList.map fun p => ev p.2).flatMap idsOf) := fun hh => by
              refine ⟨partsD_local _ ?_, freezeL_local _ hh⟩
              simpa [List.map_map, Function.comp_def] using hh
            cases draw with
            | true =>
              simp only [if_true] at hK ⊢
              subst hK
              obtain ⟨k1, k2⟩ := key fun j hj => ha j hj
              simp only [k1, q1, q2, k2]
              exact ⟨a1, a2, a3, a4, trivial⟩
            | false =>
              simp only [Bool.false_eq_true, if_false] at hK ⊢
              obtain ⟨a5, rfl⟩ := hK
              obtain ⟨k1, k2⟩ := key fun j hj => ha j (List.Mem.tail _ hj)
              have h1 := ha _ (List.Mem.head _)
              simp only [k1, q1, q2, k2, h1]
              exact ⟨a1, a2, a3, a4, a5, trivial⟩
          · exact hK.elim
        · exact hK.elim
      · exact hK.elim
    · exact hK.elim
  | makeSlice T l c =>
    rw [ho] at hK
    simp only [opR, w_slen, w_sget, w_ssub, w_sset, w_srep, w_scat, BrG_eq, DK_eq, w_ci, w_iand, w_ior, w_ixor, w_ishl, w_ishr, w_wrap, w_tmod, w_lt, w_le, w_eq, w_ne, w_ile, w_ilt, w_tn, w_nadd, w_nsub, w_nlt, w_leb, w_room, w_imax, w_imin] at hK ⊢
    split at hK
    · split at hK
      · split at hK
        · split at hK
          · rename_i q
            obtain ⟨a0, a1, a2, a3, a4, a5, a6, rfl⟩ := hK
            have h1 := ha _ (List.Mem.head _)
            have q2 := (toD_local (h2 := h2) (h := h) (fun j hj => by rw [idsOf_constV] at hj; exact absurd hj List.not_mem_nil)).trans q
            simp only [q2]
            exact ⟨h1.trans a0, a1, a2, a3, a4, a5, a6, trivial⟩
          · exact hK.elim
        · exact hK.elim
      · exact hK.elim
    · exact hK.elim
  | call c =>
    obtain ⟨callee, args, ts⟩ := c
    cases callee with
    | invoke r m => rw [ho] at hK; simp only [opR, w_slen, w_sget, w_ssub, w_sset, w_srep, w_scat, BrG_eq, DK_eq, w_ci, w_iand, w_ior, w_ixor, w_ishl, w_ishr, w_wrap, w_tmod, w_lt, w_le, w_eq, w_ne, w_ile, w_ilt, w_tn, w_nadd, w_nsub, w_nlt, w_leb, w_room, w_imax, w_imin] at hK
    | value f =>
      rw [ho] at hK
      simp only [opR, w_slen, w_sget, w_ssub, w_sset, w_srep, w_scat, BrG_eq, DK_eq, w_ci, w_iand, w_ior, w_ixor, w_ishl, w_ishr, w_wrap, w_tmod, w_lt, w_le, w_eq, w_ne, w_ile, w_ilt, w_tn, w_nadd, w_nsub, w_nlt, w_leb, w_room, w_imax, w_imin] at hK ⊢
      split at hK
      · split at hK
        · rename_i hm
          simp only [hm, if_true]
          split at hK
          · rename_i q
            obtain ⟨r, bs', a1, a2, a3, a4, rfl⟩ := hK
            have hr : reach h2 40 ((args.toList.map ev).flatMap vids) [] = reach h 40 ((args.toList.map ev).flatMap vids) [] := reach_local _ _ _ fun j hj => ha j (List.mem_append_left _ hj)
            have hg : getAll h2 (reach h 40 ((args.toList.map ev).flatMap vids) []) = getAll h (reach h 40 ((args.toList.map ev).flatMap vids) []) := getAll_local _ fun j hj => ha j (List.mem_append_left _ hj)
            simp only [hr, hg, q]
            exact ⟨r, bs', a1, allNew_local _ (fun j hj => ha j (List.mem_append_right _ hj)) a2, a3, a4, rfl⟩
          · exact hK.elim
        · rename_i hm
          simp only [hm]
          split at hK
          · rename_i q
            obtain ⟨r, a1, rfl⟩ := hK
            have h1 : toDs Ω h2 (args.toList.map ev) = toDs Ω h (args.toList.map ev) := toDs_local _ fun j hj => ha j hj
            have h3 : freezeL h2 ((args.toList.map ev).flatMap idsOf) = freezeL h ((args.toList.map ev).flatMap idsOf) := freezeL_local _ fun j hj => ha j hj
            simp only [h1, q, h3]
            exact ⟨r, a1, rfl⟩
          · exact hK.elim
      · exact hK.elim
    | builtin b =>
      cases b with
      | len =>
        rw [ho] at hK
        simp only [opR, w_slen, w_sget, w_ssub, w_sset, w_srep, w_scat, BrG_eq, DK_eq, w_ci, w_iand, w_ior, w_ixor, w_ishl, w_ishr, w_wrap, w_tmod, w_lt, w_le, w_eq, w_ne, w_ile, w_ilt, w_tn, w_nadd, w_nsub, w_nlt, w_leb, w_room, w_imax, w_imin] at hK ⊢
        split at hK
        · split at hK
          · exact hK
          · exact hK
          · split at hK
            · rename_i hj
              subst hK
              have := ha _ (List.Mem.head _)
              simp only [this, hj]
            · exact hK.elim
          · exact hK
          · exact hK
          · exact hK
          · exact hK.elim
        · rename_i q _ _; cases q
        · exact hK.elim
      | append =>
        rw [ho] at hK
        simp only [opR, w_slen, w_sget, w_ssub, w_sset, w_srep, w_scat, BrG_eq, DK_eq, w_ci, w_iand, w_ior, w_ixor, w_ishl, w_ishr, w_wrap, w_tmod, w_lt, w_le, w_eq, w_ne, w_ile, w_ilt, w_tn, w_nadd, w_nsub, w_nlt, w_leb, w_room, w_imax, w_imin] at hK ⊢
        split at hK
        · rename_i q _ _; cases q
        · rename_i x y T U _ hargs hts
          split at hK
          · split at hK
            · obtain ⟨a1, a2, a3, hK⟩ := hK
              split at hK
              · rename_i q
                obtain ⟨a4, a5, hK⟩ := hK
                split at hK
                · obtain ⟨a6, rfl⟩ := hK
                  have h1 := ha _ (List.Mem.head _)
                  have hy : toD Ω h2 y = toD Ω h y := toD_local fun j hj => ha j (List.Mem.tail _ hj)
                  have h3 : freezeL h2 (idsOf y) = freezeL h (idsOf y) := freezeL_local _ fun j hj => ha j (List.Mem.tail _ hj)
                  simp only [hy, q, h3]
                  exact ⟨a1, a2, a3, h1.trans a4, a5, a6, trivial⟩
                · split at hK
                  · rename_i hj
                    obtain ⟨b1, b2, b3, b4, rfl⟩ := hK
                    have h1 := ha _ (List.Mem.head _)
                    have h1' := ha _ (List.Mem.tail _ (List.Mem.head _))
                    have hy : toD Ω h2 y = toD Ω h y := toD_local fun j hj => ha j (List.Mem.tail _ (List.Mem.tail _ hj))
                    have h3 : freezeL h2 (idsOf y) = freezeL h (idsOf y) := freezeL_local _ fun j hj => ha j (List.Mem.tail _ (List.Mem.tail _ hj))
                    simp only [hy, q, h3, h1', hj]
                    exact ⟨a1, a2, a3, h1.trans a4, a5, b1, b2, b3, b4, trivial⟩
                  · exact hK.elim
                · exact hK.elim
              · exact hK.elim
            · exact hK.elim
          · exact hK.elim
        · exact hK.elim
      | max => rw [ho] at hK; simp only [opR] at hK ⊢; exact hK
      | min => rw [ho] at hK; simp only [opR] at hK ⊢; exact hK
      | _ => rw [ho] at hK; simp only [opR, w_slen, w_sget, w_ssub, w_sset, w_srep, w_scat, BrG_eq, DK_eq, w_ci, w_iand, w_ior, w_ixor, w_ishl, w_ishr, w_wrap, w_tmod, w_lt, w_le, w_eq, w_ne, w_ile, w_ilt, w_tn, w_nadd, w_nsub, w_nlt, w_leb, w_room, w_imax, w_imin] at hK
  | _ =>
    rw [ho] at hK
    simpa only [opR] using hK

end
end Go.K
end
section
/-
  K, part 16: regions whose order is that of the text. No macro, syntax, notation, axiom, sorry.
-/
namespace Go.K
open Go
set_option linter.unusedSectionVars false
set_option linter.unusedVariables false
set_option linter.unusedSimpArgs false

/-- where a function began -/
structure Base where
  ι : Nat → Option Value
  imm : Nat → Prop
  h : Heap
  w : World

/-- the machine's frame and world are as the abstract state says -/
def Sim (B : Base) (n : Nat) (s : St) (a : Act) (w : World) : Prop :=
  ∃ ι imm, Evo B.ι B.imm B.h B.w ι imm s.h w ∧ Inv ι imm s.h w ∧ a.tmps.size = n ∧ a.defers = [] ∧ ∀ t, RepV ι imm w (s.sl t) (a.tmps.getD t undef)

theorem Inv.sameHeap {ι : Nat → Option Value} {imm : Nat → Prop} {h : Heap} {w w' : World} (I : Inv ι imm h w) (e : w'.heap = w.heap) : Inv ι imm h w' :=
  ⟨fun id B hid => let ⟨v, h1, h2⟩ := I.blk id B hid; ⟨v, h1, h2.mono (fun _ _ q => q) (fun g hg => ⟨hg, by rw [e]⟩) fun g _ _ => by rw [e]⟩, I.non, I.own, I.inj, fun g hg => by rw [e]; exact I.lt g hg⟩

theorem Sim.drew {B : Base} {n : Nat} {s : St} {a : Act} {w : World} (h : Sim B n s a w) : Sim B n s a { w with drawn := w.drawn + 1 } := by
  obtain ⟨ι, imm, e, I, h1, h2, h3⟩ := h
  exact ⟨ι, imm, ⟨e.ids, e.immS, e.immR, e.own', e.keep, e.size, e.os, e.tape, e.output⟩, I.sameHeap rfl, h1, h2, fun t => RepV.mono (w := w) (w' := { w with drawn := w.drawn + 1 }) (fun _ _ q => q) (fun g hg => ⟨hg, rfl⟩) (h3 t)⟩

theorem ev_rep {ι : Nat → Option Value} {imm : Nat → Prop} {w : World} {s : Nat → V} {a : Act} (h : ∀ t, RepV ι imm w (s t) (a.tmps.getD t undef)) (x : Operand) : RepV ι imm w (ev s x) (a.eval x) := by
  cases x with
  | tmp t => exact h t
  | const v => exact constV_rep _ _ _ v
  | global g => trivial
  | func f => exact rfl

theorem put_rep {ι : Nat → Option Value} {imm : Nat → Prop} {w : World} {s : Nat → V} {a : Act} {n : Nat} (hn : a.tmps.size = n) (h : ∀ t, RepV ι imm w (s t) (a.tmps.getD t undef)) {d : Option Tmp} (hd : ∀ t, d = some t → t < n)
    {x : V} {v : Value} (hv : RepV ι imm w x v) : ∀ t, RepV ι imm w (put s d x t) ((a.put d v).tmps.getD t undef) := by
  intro t
  cases d with
  | none => exact h t
  | some d =>
    have hlt : d < n := hd d rfl
    simp only [put, Act.put]
    by_cases c : t = d
    · subst c
      rw [upd_same]
      have : (a.tmps.setIfInBounds t v).getD t undef = v := by
        have : t < a.tmps.size := by rw [hn]; exact hlt
        simp [Array.getD, this]
      rw [this]; exact hv
    · rw [upd_other _ _ _ _ c]
      have : (a.tmps.setIfInBounds d v).getD t undef = a.tmps.getD t undef := by
        simp only [Array.getD_eq_getD_getElem?, Array.getElem?_setIfInBounds, if_neg (Ne.symm c)]
      rw [this]; exact h t

/-- is the operation carried out? -/
def guardOf (ops : Array Oper) (s : Nat → V) (o : Oper) : Option Bool :=
  match o.guard with
  | none => some true
  | some (j, want) => match (ops[j]?).bind (·.dst) with
    | some t => match s t with
      | .d (.b x) => some (decide (x = want))
      | .tup [] => some false
      | _ => none
    | none => none

theorem guard_rep {ι : Nat → Option Value} {imm : Nat → Prop} {w : World} {s : Nat → V} {a : Act} (h : ∀ t, RepV ι imm w (s t) (a.tmps.getD t undef)) {ops : Array Oper} {o : Oper} {b : Bool} (hg : guardOf ops s o = some b) :
    Region.wanted o (yielded ops a.tmps) = b := by
  unfold guardOf at hg
  unfold Region.wanted
  cases hgd : o.guard with
  | none => rw [hgd] at hg; cases hg; rfl
  | some p =>
    obtain ⟨j, want⟩ := p
    rw [hgd] at hg
    simp only at hg ⊢
    split at hg
    · rename_i t ht
      split at hg
      · rename_i x hx
        cases hg
        have h1 := h t
        rw [hx] at h1
        have h2 := repB h1
        have hlt : t < a.tmps.size := by
          rcases Nat.lt_or_ge t a.tmps.size with q | q
          · exact q
          · rw [Array.getD_eq_getD_getElem?, Array.getElem?_eq_none (by omega)] at h2; cases h2
        have h3 : a.tmps[t]? = some (.bool x) := by
          rw [← h2]; simp [Array.getD, hlt]
        simp only [yielded, ht, Option.bind_some, h3]
        cases x <;> cases want <;> rfl
      · rename_i hx
        cases hg
        have h1 := h t
        rw [hx] at h1
        obtain ⟨vs, h2, h4, _⟩ := h1
        have h3 : ∀ y, a.tmps[t]? = some y → y = .tuple vs := fun y hy => by
          rw [← h2]; simp [Array.getD_eq_getD_getElem?, hy]
        have h5 : yielded ops a.tmps j = none := by
          simp only [yielded, ht, Option.bind_some]
          cases hy : a.tmps[t]? with
          | none => rfl
          | some y => rw [h3 y hy]
        rw [h5]
        cases want <;> rfl
      · cases hg
    · cases hg

section
variable {P : Program} {E : Env} {B : Base} {n : Nat}

/-- one operation -/
theorem oper_sound (ok : EnvOk P E) {draw : Bool} {s : St} {a : Act} {w : World} (S : Sim B n s a w) {o : Oper} {id : Nat} {K : Out → Prop} (hK : opR Ω E draw (ev s.sl) s.h o.op id K) (hd : ∀ t, o.dst = some t → t < n)
    {next : Act → World → Prop} {Q : Exit → Act → World → Prop} (hn : ∀ out a' w', K out → Sim B n (step s o.dst out) a' w' → next a' w') : o.wp P a w next Q := by
  obtain ⟨ι, imm, e, I, h1, h2, h3⟩ := S
  have hput : ∀ v, (a.put o.dst v).tmps.size = n := fun v => by cases o.dst <;> simp [Act.put, h1]
  have hdef : ∀ v, (a.put o.dst v).defers = [] := fun v => by cases o.dst <;> simp [Act.put, h2]
  unfold Oper.wp
  rcases op_sound ok I (ev_rep h3) hK with ⟨out, v, w', ι', imm', hr, hk, e', I', hv⟩ | ⟨g, vs, hr, hc⟩
  · have fin := hn out (a.put o.dst v) w' hk ⟨ι', imm', e.trans e', I', hput v, hdef v, put_rep h1 (fun t => (h3 t).evo I e') hd hv⟩
    rcases hr with hr | ⟨hr, rfl⟩
    · rw [hr]; exact fin
    · rw [hr]; exact fin
  · rw [hr]
    simp only [Oper.upon]
    refine hc.mono ?_
    rintro e0 w' ⟨v, out, ι', imm', rfl, hk, e', I', hv⟩
    exact hn out (a.put o.dst v) w' hk ⟨ι', imm', e.trans e', I', hput v, hdef v, put_rep h1 (fun t => (h3 t).evo I e') hd hv⟩

/-- an operation that is passed over -/
theorem skip_sound {s : St} {a : Act} {w : World} (S : Sim B n s a w) {o : Oper} (hd : ∀ t, o.dst = some t → t < n) : Sim B n (step s o.dst { v := .tup [] }) (a.put o.dst undef) w := by
  obtain ⟨ι, imm, e, I, h1, h2, h3⟩ := S
  exact ⟨ι, imm, e, I, by cases o.dst <;> simp [Act.put, h1], by cases o.dst <;> simp [Act.put, h2], put_rep h1 h3 hd (x := .tup []) ⟨#[], rfl, rfl, fun j hj => absurd hj (Nat.not_lt_zero _)⟩⟩

theorem wpl_guard {draw : Bool} {base : Nat} {ops : Array Oper} {o : Oper} {r : List Oper} {m : Nat} {log : List Foot} {s : St} {K : List Foot → St → Prop} (h : wpl Ω E draw base ops (o :: r) m log s K) :
    (guardOf ops s.sl o = some true ∧ opR Ω E draw (ev s.sl) s.h o.op (base + m) fun out => wpl Ω E draw base ops r (m + 1) (⟨m, out.upd.map Prod.fst ++ out.rd, out.upd.map Prod.fst⟩ :: log) (step s o.dst out) K) ∨
    (guardOf ops s.sl o = some false ∧ wpl Ω E draw base ops r (m + 1) (⟨m, [], []⟩ :: log) (step s o.dst { v := .tup [] }) K) := by
  unfold wpl at h
  simp only [BrG_eq] at h
  unfold guardOf
  split at h
  · rename_i hg
    rw [hg]; exact .inl ⟨rfl, h⟩
  · rename_i j want hg
    rw [hg]
    simp only
    split at h
    · rename_i t ht
      rw [ht]
      simp only
      split at h
      · rename_i x hx
        rw [hx]
        simp only
        by_cases c : x = want
        · rw [if_pos c] at h
          exact .inl ⟨by simp [c], h⟩
        · rw [if_neg c] at h
          exact .inr ⟨by simp [c], h⟩
      · rename_i hx
        rw [hx]
        exact .inr ⟨rfl, h⟩
      · exact h.elim
    · exact h.elim

/-- a region in the order of the text -/
theorem wpl_sound (ok : EnvOk P E) {base : Nat} {ops : Array Oper} (hd : ∀ (i : Nat) (o : Oper) (t : Tmp), ops[i]? = some o → o.dst = some t → t < n) {Q : Exit → Act → World → Prop} :
    ∀ (r : List Oper) (m : Nat), (∀ j : Nat, r[j]? = ops[m + j]?) → ∀ (log : List Foot) (s : St) (a : Act) (w : World) (K : List Foot → St → Prop), wpl Ω E false base ops r m log s K → Sim B n s a w →
      (∀ log s' a' w', K log s' → Sim B n s' a' w' → Q .normal a' w') → wpOps P ops Q (List.range' m r.length) a w
  | [], m, _, log, s, a, w, K, h, S, hQ => hQ log s a w h S
  | o :: r, m, hr, log, s, a, w, K, h, S, hQ => by
    have h0 : ops[m]? = some o := by simpa using (hr 0).symm
    have hr' : ∀ j : Nat, r[j]? = ops[m + 1 + j]? := fun j => by have := hr (j + 1); simpa [Nat.add_assoc, Nat.add_comm 1 j] using this
    simp only [List.length_cons, List.range'_succ, wpOps, h0]
    have hg : ∀ b, guardOf ops s.sl o = some b → Region.wanted o (yielded ops a.tmps) = b := fun b hb => by
      obtain ⟨ι, imm, e, I, h1, h2, h3⟩ := S
      exact guard_rep h3 hb
    rcases wpl_guard h with ⟨g, hop⟩ | ⟨g, hskip⟩
    · rw [hg _ g]
      simp only [if_true]
      exact .inl (oper_sound ok S hop (fun t ht => hd m o t h0 ht) fun out a' w' hk S' => wpl_sound ok hd r (m + 1) hr' _ _ a' w' K hk S' hQ)
    · rw [hg _ g]
      simp only [Bool.false_eq_true, if_false]
      exact wpl_sound ok hd r (m + 1) hr' _ _ _ _ K hskip (skip_sound S fun t ht => hd m o t h0 ht) hQ

end
end Go.K
end
section
/-
  K, part 17: regions that draw their order: one order is as good as another. No macro, syntax, notation, axiom, sorry.
-/
namespace Go.K
open Go
set_option linter.unusedSectionVars false
set_option linter.unusedVariables false
set_option linter.unusedSimpArgs false

section
variable {E : Env} {draw : Bool} {ev ev' : Operand → V} {h : Heap} {id : Nat}

theorem opR_congr {op : Op} (he : ∀ x, x ∈ op.operands → ev x = ev' x) : opR Ω E draw ev h op id = opR Ω E draw ev' h op id := by
  funext K
  have one : ∀ x, x ∈ op.operands.toList → ev x = ev' x := fun x hx => he x (by simpa using hx)
  cases op with
  | move x => simp only [opR, he x (by simp [Op.operands])]
  | assign x => simp only [opR, he x (by simp [Op.operands])]
  | pick c a b => simp only [opR, he c (by simp [Op.operands]), he a (by simp [Op.operands]), he b (by simp [Op.operands])]
  | nilCheck x => simp only [opR, he x (by simp [Op.operands])]
  | box T x => simp only [opR, he x (by simp [Op.operands])]
  | store T x y => simp only [opR, he x (by simp [Op.operands]), he y (by simp [Op.operands])]
  | load T x => simp only [opR, he x (by simp [Op.operands])]
  | fieldAddr T x f => simp only [opR, he x (by simp [Op.operands])]
  | field T x f => simp only [opR, he x (by simp [Op.operands])]
  | index T x y => simp only [opR, he x (by simp [Op.operands]), he y (by simp [Op.operands])]
  | indexAddr T x y => simp only [opR, he x (by simp [Op.operands]), he y (by simp [Op.operands])]
  | slice T x lo hi mx =>
    have h1 : lo.map ev = lo.map ev' := by cases lo with
      | none => rfl
      | some l => simp only [Option.map_some, he l (by simp [Op.operands])]
    have h2 : hi.map ev = hi.map ev' := by cases hi with
      | none => rfl
      | some l => simp only [Option.map_some, he l (by simp [Op.operands])]
    have h3 : mx.map ev = mx.map ev' := by cases mx with
      | none => rfl
      | some l => simp only [Option.map_some, he l (by simp [Op.operands])]
    simp only [opR, he x (by simp [Op.operands]), h1, h2, h3]
  | build T parts =>
    have h1 : (parts.toList.map fun p => (p.1, ev p.2)) = parts.toList.map fun p => (p.1, ev' p.2) := List.map_congr_left fun p hp => by
      rw [he p.2 (by simp only [Op.operands, List.mem_toArray, List.mem_map]; exact ⟨p, hp, rfl⟩)]
    simp only [opR, h1]
  | buildSlice T len parts =>
    have h1 : (parts.toList.map fun p => (p.1, ev p.2)) = parts.toList.map fun p => (p.1, ev' p.2) := List.map_congr_left fun p hp => by
      rw [he p.2 (by simp only [Op.operands, List.mem_toArray, List.mem_map]; exact ⟨p, hp, rfl⟩)]
    have h2 : (parts.toList.map fun p => ev p.2) = parts.toList.map fun p => ev' p.2 := List.map_congr_left fun p hp => by
      rw [he p.2 (by simp only [Op.operands, List.mem_toArray, List.mem_map]; exact ⟨p, hp, rfl⟩)]
    simp only [opR, h1, h2]
  | makeSlice T l c => simp only [opR, he l (by simp [Op.operands]), he c (by simp [Op.operands])]
  | binOp op T x y U => simp only [opR, he x (by simp [Op.operands]), he y (by simp [Op.operands])]
  | unOp op T x => simp only [opR, he x (by simp [Op.operands])]
  | convert S T x => simp only [opR, he x (by simp [Op.operands])]
  | extract x k => simp only [opR, he x (by simp [Op.operands])]
  | makeInterface T x => simp only [opR, he x (by simp [Op.operands])]
  | call c =>
    obtain ⟨callee, args, ts⟩ := c
    have h1 : args.toList.map ev = args.toList.map ev' := List.map_congr_left fun p hp => he p (by
      simp only [Op.operands, Call.operands, Array.mem_append]
      exact .inr (by simpa using hp))
    cases callee with
    | value f => simp only [opR, h1, he f (by simp [Op.operands, Call.operands])]
    | invoke r m => simp only [opR]
    | builtin b => cases b <;> simp only [opR, h1]
  | _ => simp only [opR]

end

theorem put_comm (s : Nat → V) {x y : Option Tmp} (v u : V) (h : ∀ d, x = some d → y ≠ some d) : put (put s x v) y u = put (put s y u) x v := by
  cases x with
  | none => rfl
  | some d =>
    cases y with
    | none => rfl
    | some e =>
      have hne : e ≠ d := fun he => h d rfl (by rw [he])
      funext t
      simp only [put, upd]
      by_cases c : t = e
      · subst c; simp [hne]
      · by_cases d' : t = d <;> simp [c, d', Ne.symm hne]

theorem ups_other (h : Heap) : ∀ (l : List (Nat × Blk)) (i : Nat), i ∉ l.map Prod.fst → ups h l i = h i
  | [], i, _ => rfl
  | (k, b) :: r, i, hi => by
    simp only [List.map_cons, List.mem_cons, not_or] at hi
    simp only [ups]
    rw [upd_other _ _ _ _ hi.1]
    exact ups_other h r i hi.2
theorem ups_same (h h2 : Heap) : ∀ (l : List (Nat × Blk)) (i : Nat), i ∈ l.map Prod.fst → ups h l i = ups h2 l i
  | (k, b) :: r, i, hi => by
    simp only [ups]
    by_cases c : i = k
    · subst c; rw [upd_same, upd_same]
    · rw [upd_other _ _ _ _ c, upd_other _ _ _ _ c]
      simp only [List.map_cons, List.mem_cons] at hi
      exact ups_same h h2 r i (hi.resolve_left c)
theorem ups_comm (h : Heap) (a b : List (Nat × Blk)) (hd : ∀ i, i ∈ a.map Prod.fst → i ∉ b.map Prod.fst) : ups (ups h a) b = ups (ups h b) a := by
  funext i
  by_cases c : i ∈ a.map Prod.fst
  · rw [ups_other _ b i (hd i c)]
    exact ups_same _ _ a i c
  · rw [ups_other _ a i c]
    by_cases d : i ∈ b.map Prod.fst
    · exact ups_same _ _ b i d
    · rw [ups_other _ b i d, ups_other _ b i d, ups_other _ a i c]

section
variable {E : Env} {base : Nat} {ops : Array Oper}

def skipOut : Out := { v := .tup [] }

/-- operation number n leaves 'out' in state s -/
def Fires (E : Env) (base : Nat) (ops : Array Oper) (n : Nat) (o : Oper) (s : St) (out : Out) : Prop :=
  (guardOf ops s.sl o = some true ∧ opR Ω E true (ev s.sl) s.h o.op (base + n) (fun x => x = out)) ∨ (guardOf ops s.sl o = some false ∧ out = skipOut)

def Trc (E : Env) (base : Nat) (ops : Array Oper) : List (Nat × Out) → St → St → Prop
  | [], s, s' => s' = s
  | (n, out) :: r, s, s' => ∃ o, ops[n]? = some o ∧ Fires E base ops n o s out ∧ Trc E base ops r (step s o.dst out) s'

def wrOf (out : Out) : List Nat := out.upd.map Prod.fst
def rdOf (out : Out) : List Nat := out.upd.map Prod.fst ++ out.rd

/-- two operations have nothing to do with one another -/
def Ind (ops : Array Oper) (x y : Nat × Out) : Prop :=
  (∀ ox oy, ops[x.1]? = some ox → ops[y.1]? = some oy → ox.apart ops oy = true) ∧ (∀ i, i ∈ wrOf x.2 → i ∉ rdOf y.2) ∧ (∀ i, i ∈ wrOf y.2 → i ∉ rdOf x.2)

theorem guardOf_put {s : Nat → V} {o : Oper} {d : Option Tmp} {v : V} (h : ∀ t, d = some t → t ∉ o.looksAt ops) : guardOf ops (put s d v) o = guardOf ops s o := by
  cases d with
  | none => rfl
  | some d =>
    unfold guardOf
    cases hg : o.guard with
    | none => rfl
    | some p =>
      obtain ⟨j, want⟩ := p
      simp only
      cases ht : (ops[j]?).bind (·.dst) with
      | none => rfl
      | some t =>
        have : t ≠ d := fun e => by
          subst e
          refine h t rfl ?_
          simp only [Oper.looksAt, hg, ht, List.mem_append]
          exact .inr (by simp)
        simp only [put]
        rw [upd_other _ _ _ _ this]

theorem ev_put {s : Nat → V} {o : Oper} {d : Option Tmp} {v : V} (h : ∀ t, d = some t → t ∉ o.looksAt ops) : ∀ x, x ∈ o.op.operands → ev (put s d v) x = ev s x := fun x hx => by
  cases d with
  | none => rfl
  | some d =>
    cases x with
    | tmp t =>
      have : t ≠ d := fun e => by
        subst e
        refine h t rfl ?_
        simp only [Oper.looksAt, List.mem_append, List.mem_filterMap]
        exact .inl ⟨.tmp t, by simpa using hx, rfl⟩
      simp only [ev, put]
      rw [upd_other _ _ _ _ this]
    | _ => rfl

theorem Fires.later {x y : Nat × Out} {ox oy : Oper} (hx : ops[x.1]? = some ox) (hy : ops[y.1]? = some oy) (hi : Ind ops x y) {s : St} (hf : Fires E base ops y.1 oy (step s ox.dst x.2) y.2) : Fires E base ops y.1 oy s y.2 := by
  obtain ⟨h1, h2, h3⟩ := Oper.apart_spec (hi.1 ox oy hx hy)
  unfold Fires at hf ⊢
  have hg : guardOf ops (step s ox.dst x.2).sl oy = guardOf ops s.sl oy := guardOf_put h1
  rw [hg] at hf
  rcases hf with ⟨a, b⟩ | c
  · left
    refine ⟨a, ?_⟩
    rw [show (step s ox.dst x.2).sl = put s.sl ox.dst x.2.v from rfl, opR_congr (ev_put h1)] at b
    refine opR_local b fun j hj => ?_
    show s.h j = ups s.h x.2.upd j
    exact (ups_other _ _ _ fun q => hi.2.1 j q (List.mem_append_right _ hj)).symm
  · exact .inr c

theorem Fires.sooner {x y : Nat × Out} {ox oy : Oper} (hx : ops[x.1]? = some ox) (hy : ops[y.1]? = some oy) (hi : Ind ops x y) {s : St} (hf : Fires E base ops x.1 ox s x.2) : Fires E base ops x.1 ox (step s oy.dst y.2) x.2 := by
  obtain ⟨h1, h2, h3⟩ := Oper.apart_spec (hi.1 ox oy hx hy)
  unfold Fires at hf ⊢
  have hg : guardOf ops (step s oy.dst y.2).sl ox = guardOf ops s.sl ox := guardOf_put h3
  rw [hg]
  rcases hf with ⟨a, b⟩ | c
  · left
    refine ⟨a, ?_⟩
    rw [show (step s oy.dst y.2).sl = put s.sl oy.dst y.2.v from rfl, opR_congr (ev_put h3)]
    refine opR_local b fun j hj => ?_
    show ups s.h y.2.upd j = s.h j
    exact ups_other _ _ _ fun q => hi.2.2 j q (List.mem_append_right _ hj)
  · exact .inr c

theorem step_comm {x y : Nat × Out} {ox oy : Oper} (hx : ops[x.1]? = some ox) (hy : ops[y.1]? = some oy) (hi : Ind ops x y) (s : St) : step (step s ox.dst x.2) oy.dst y.2 = step (step s oy.dst y.2) ox.dst x.2 := by
  obtain ⟨h1, h2, h3⟩ := Oper.apart_spec (hi.1 ox oy hx hy)
  simp only [step]
  rw [put_comm _ _ _ h2, ups_comm]
  exact fun i a b => hi.2.1 i a (List.mem_append_left _ b)

/-- an operation that has nothing to do with those ahead of it may go first -/
theorem Trc.first {s' : St} : ∀ (pre : List (Nat × Out)) (x : Nat × Out) (post : List (Nat × Out)) (s : St), (∀ y, y ∈ pre → Ind ops y x) → Trc E base ops (pre ++ x :: post) s s' → Trc E base ops (x :: (pre ++ post)) s s'
  | [], x, post, s, _, h => h
  | y :: pre, x, post, s, hi, h => by
    obtain ⟨oy, hy, fy, hr⟩ := h
    obtain ⟨ox, hx, fx, hr2⟩ := Trc.first pre x post _ (fun z hz => hi z (by simp [hz])) hr
    have ind := hi y (by simp)
    refine ⟨ox, hx, fx.later hy hx ind, oy, hy, fy.sooner hy hx ind, ?_⟩
    rw [← step_comm hy hx ind]
    exact hr2

/-- the weakest precondition gives a trace -/
theorem wpl_trc : ∀ (r : List Oper) (m : Nat), (∀ j : Nat, r[j]? = ops[m + j]?) → ∀ (log : List Foot) (s : St) (K : List Foot → St → Prop), wpl Ω E true base ops r m log s K →
    ∃ tr s', tr.map Prod.fst = List.range' m r.length ∧ Trc E base ops tr s s' ∧ K ((tr.map fun x => (⟨x.1, rdOf x.2, wrOf x.2⟩ : Foot)).reverse ++ log) s'
  | [], m, _, log, s, K, h => ⟨[], s, rfl, rfl, h⟩
  | o :: r, m, hr, log, s, K, h => by
    have h0 : ops[m]? = some o := by simpa using (hr 0).symm
    have hr' : ∀ j : Nat, r[j]? = ops[m + 1 + j]? := fun j => by have := hr (j + 1); simpa [Nat.add_assoc, Nat.add_comm 1 j] using this
    rcases wpl_guard h with ⟨g, hop⟩ | ⟨g, hskip⟩
    · obtain ⟨out, h1, h2⟩ := opR_ex rfl hop
      obtain ⟨tr, s', t1, t2, t3⟩ := wpl_trc r (m + 1) hr' _ _ K h2
      refine ⟨(m, out) :: tr, s', by simp [t1, List.range'_succ], ⟨o, h0, .inl ⟨g, h1⟩, t2⟩, ?_⟩
      simpa [rdOf, wrOf] using t3
    · obtain ⟨tr, s', t1, t2, t3⟩ := wpl_trc r (m + 1) hr' _ _ K hskip
      refine ⟨(m, skipOut) :: tr, s', by simp [t1, List.range'_succ], ⟨o, h0, .inr ⟨g, rfl⟩, t2⟩, ?_⟩
      simpa [rdOf, wrOf, skipOut] using t3

end

/-- the machine does what fires -/
theorem fire_sound {P : Program} {E : Env} {B : Base} {n : Nat} (ok : EnvOk P E) {base : Nat} {ops : Array Oper} {i : Nat} {o : Oper} (ho : ops[i]? = some o) (hd : ∀ t, o.dst = some t → t < n) {s : St} {a : Act} {w : World} (S : Sim B n s a w)
    {out : Out} (hf : Fires E base ops i o s out) {K : Act → World → Prop} {Q : Exit → Act → World → Prop} (hK : ∀ a' w', Sim B n (step s o.dst out) a' w' → K a' w') : wpOp P ops Q i K a w := by
  have hg : ∀ b, guardOf ops s.sl o = some b → Region.wanted o (yielded ops a.tmps) = b := fun b hb => by
    obtain ⟨ι, imm, e, I, h1, h2, h3⟩ := S
    exact guard_rep h3 hb
  unfold wpOp
  simp only [ho]
  rcases hf with ⟨g, h⟩ | ⟨g, rfl⟩
  · rw [hg _ g]
    simp only [if_true]
    exact .inl (oper_sound ok S h hd fun out' a' w' e S' => by subst e; exact hK a' w' S')
  · rw [hg _ g]
    simp only [Bool.false_eq_true, if_false]
    exact hK _ _ (skip_sound S hd)

/-- what is asked of a region's code -/
def regOk (n : Nat) (ops : Array Oper) (draw : Bool) : Bool :=
  ops.toList.all (fun o => match o.dst with | some t => decide (t < n) | none => true) &&
  (!draw || ((List.range ops.size).all (fun i => match ops[i]? with | some o => o.after.toList.all fun e => !Region.binds .any e || decide (e.on < i) | none => true) &&
    (List.range ops.size).all fun i => (List.range ops.size).all fun j => i == j || ((ancM ops.toList).getD j 0).testBit i || ((ancM ops.toList).getD i 0).testBit j ||
      match ops[i]?, ops[j]? with | some x, some y => x.apart ops y | _, _ => true))

theorem regOk_dst {n : Nat} {ops : Array Oper} {draw : Bool} (h : regOk n ops draw = true) : ∀ (i : Nat) (o : Oper) (t : Tmp), ops[i]? = some o → o.dst = some t → t < n := fun i o t hi ht => by
  simp only [regOk, Bool.and_eq_true] at h
  have := List.all_eq_true.1 h.1 o (by have := List.mem_of_getElem? (l := ops.toList) (i := i) (by simpa using hi); exact this)
  rw [ht] at this
  simpa using this


theorem ancM_edges (acc : List (List Nat)) (accM : List Nat) (hA : ∀ j k, (accM.getD j 0).testBit k = true → k ∈ acc.getD j []) (k : Nat) : ∀ (es : List Edge) (m : Nat),
    (es.foldl (fun m e => m ||| (1 <<< e.on ||| accM.getD e.on 0)) m).testBit k = true → m.testBit k = true ∨ k ∈ es.flatMap fun e => e.on :: acc.getD e.on []
  | [], m, h => .inl h
  | e :: r, m, h => by
    rcases ancM_edges acc accM hA k r _ h with q | q
    · rw [Nat.testBit_or, Nat.testBit_or, Bool.or_eq_true, Bool.or_eq_true] at q
      rcases q with q | q | q
      · exact .inl q
      · refine .inr ?_
        rw [Nat.testBit_shiftLeft] at q
        simp only [Bool.and_eq_true, decide_eq_true_eq] at q
        have : k - e.on = 0 := by
          rcases Nat.eq_zero_or_pos (k - e.on) with h | h
          · exact h
          · have := q.2
            rw [Nat.testBit_one_eq_true_iff_self_eq_zero] at this
            exact this
        have : k = e.on := by omega
        simp [this]
      · exact .inr (by simp only [List.flatMap_cons, List.mem_append, List.mem_cons]; exact .inl (.inr (hA _ _ q)))
    · exact .inr (by simp only [List.flatMap_cons, List.mem_append]; exact .inr q)

theorem ancM_fold : ∀ (l : List Oper) (acc : List (List Nat)) (accM : List Nat), acc.length = accM.length → (∀ j k, (accM.getD j 0).testBit k = true → k ∈ acc.getD j []) →
    ∀ j k, ((l.foldl (fun acc o => acc ++ [(o.after.toList.filter (Region.binds .any)).foldl (fun m e => m ||| (1 <<< e.on ||| acc.getD e.on 0)) 0]) accM).getD j 0).testBit k = true →
      k ∈ (l.foldl (fun acc o => acc ++ [(o.after.toList.filter (Region.binds .any)).flatMap fun e => e.on :: acc.getD e.on []]) acc).getD j []
  | [], acc, accM, _, h => h
  | o :: r, acc, accM, hl, h => by
    refine ancM_fold r _ _ (by simp [hl]) fun j k hk => ?_
    rcases Nat.lt_trichotomy j acc.length with q | q | q
    · have h1 : j < accM.length := by omega
      simp only [List.getD_eq_getElem?_getD, List.getElem?_append_left h1, List.getElem?_append_left q] at hk ⊢
      have := h j k
      simp only [List.getD_eq_getElem?_getD] at this
      exact this hk
    · subst q
      rw [List.getD_eq_getElem?_getD, hl, List.getElem?_concat_length] at hk
      rw [List.getD_eq_getElem?_getD, List.getElem?_concat_length]
      rcases ancM_edges acc accM h k _ 0 hk with q | q
      · simp at q
      · exact q
    · rw [List.getD_eq_getElem?_getD, List.getElem?_eq_none (by simp; omega)] at hk
      simp at hk

theorem ancM_ok (l : List Oper) (j k : Nat) (h : ((ancM l).getD j 0).testBit k = true) : k ∈ (anc l).getD j [] := ancM_fold l [] [] rfl (by simp) j k h

def ancF (acc : List (List Nat)) (l : List Oper) : List (List Nat) :=
  l.foldl (fun acc o => acc ++ [(o.after.toList.filter (Region.binds .any)).flatMap fun e => e.on :: acc.getD e.on []]) acc

theorem ancF_prefix : ∀ (l : List Oper) (acc : List (List Nat)), ∃ q, ancF acc l = acc ++ q
  | [], acc => ⟨[], by simp [ancF]⟩
  | o :: r, acc => by
    obtain ⟨q, hq⟩ := ancF_prefix r (acc ++ [(o.after.toList.filter (Region.binds .any)).flatMap fun e => e.on :: acc.getD e.on []])
    have : ancF acc (o :: r) = ancF (acc ++ [(o.after.toList.filter (Region.binds .any)).flatMap fun e => e.on :: acc.getD e.on []]) r := rfl
    rw [this, hq, List.append_assoc]
    exact ⟨_, rfl⟩

theorem flatMap_congr' {α β : Type} {l : List α} {f g : α → List β} (h : ∀ x, x ∈ l → f x = g x) : l.flatMap f = l.flatMap g := by
  induction l with
  | nil => rfl
  | cons a r ih =>
    simp only [List.flatMap_cons]
    rw [h a (by simp), ih fun x hx => h x (by simp [hx])]

theorem ancF_get : ∀ (l : List Oper) (acc : List (List Nat)) (j : Nat) (o : Oper), l[j]? = some o → (∀ e, e ∈ o.after.toList → Region.binds .any e = true → e.on < acc.length + j) →
    (ancF acc l).getD (acc.length + j) [] = (o.after.toList.filter (Region.binds .any)).flatMap fun e => e.on :: (ancF acc l).getD e.on []
  | [], acc, j, o, h, _ => by simp at h
  | o' :: r, acc, j, o, h, he => by
    have hstep : ancF acc (o' :: r) = ancF (acc ++ [(o'.after.toList.filter (Region.binds .any)).flatMap fun e => e.on :: acc.getD e.on []]) r := rfl
    cases j with
    | zero =>
      simp at h
      subst h
      obtain ⟨q, hq⟩ := ancF_prefix r (acc ++ [(o'.after.toList.filter (Region.binds .any)).flatMap fun e => e.on :: acc.getD e.on []])
      rw [hstep, hq]
      have e1 : (acc ++ [(o'.after.toList.filter (Region.binds .any)).flatMap fun e => e.on :: acc.getD e.on []] ++ q).getD (acc.length + 0) [] = (o'.after.toList.filter (Region.binds .any)).flatMap fun e => e.on :: acc.getD e.on [] := by
        simp [List.getD, List.getElem?_append]
      rw [e1]
      refine flatMap_congr' fun e hm => ?_
      rw [List.mem_filter] at hm
      have hlt : e.on < acc.length := by have := he e hm.1 hm.2; omega
      congr 1
      simp [List.getD, List.getElem?_append, hlt, Nat.lt_succ_of_lt hlt]
    | succ j =>
      have := ancF_get r (acc ++ [(o'.after.toList.filter (Region.binds .any)).flatMap fun e => e.on :: acc.getD e.on []]) j o (by simpa using h) (fun e a b => by have := he e a b; simp; omega)
      rw [hstep]
      have e1 : acc.length + (j + 1) = (acc ++ [(o'.after.toList.filter (Region.binds .any)).flatMap fun e => e.on :: acc.getD e.on []]).length + j := by simp; omega
      rw [e1]
      exact this

/-- what an operation waits for: its own edges, and what those wait for -/
theorem anc_get (l : List Oper) (j : Nat) (o : Oper) (h : l[j]? = some o) (he : ∀ e, e ∈ o.after.toList → Region.binds .any e = true → e.on < j) :
    (anc l).getD j [] = (o.after.toList.filter (Region.binds .any)).flatMap fun e => e.on :: (anc l).getD e.on [] := by
  have := ancF_get l [] j o h (by simpa using he)
  simpa [anc, ancF] using this

theorem anc_lt (l : List Oper) (hl : ∀ (j : Nat) (o : Oper), l[j]? = some o → ∀ e, e ∈ o.after.toList → Region.binds .any e = true → e.on < j) :
    ∀ (n j : Nat), j < n → ∀ i, i ∈ (anc l).getD j [] → i < j
  | 0, j, hj, _, _ => absurd hj (Nat.not_lt_zero _)
  | n + 1, j, hj, i, hi => by
    cases ho : l[j]? with
    | none =>
      have hlen : (anc l).length ≤ j := by
        have h1 : l.length ≤ j := by
          rcases Nat.lt_or_ge j l.length with q | q
          · rw [List.getElem?_eq_getElem q] at ho; cases ho
          · exact q
        have : ∀ (l : List Oper) (acc : List (List Nat)), (ancF acc l).length = acc.length + l.length := fun l => by
          induction l with
          | nil => intro acc; rfl
          | cons o r ih => intro acc; show (ancF (acc ++ [_]) r).length = _; rw [ih]; simp; omega
        have := this l []
        have e : anc l = ancF [] l := rfl
        rw [e, this]; simp; exact h1
      rw [List.getD_eq_getElem?_getD, List.getElem?_eq_none hlen] at hi
      cases hi
    | some o =>
      rw [anc_get l j o ho (hl j o ho)] at hi
      obtain ⟨e, he, hi⟩ := List.mem_flatMap.1 hi
      rw [List.mem_filter] at he
      have h1 := hl j o ho e he.1 he.2
      rcases List.mem_cons.1 hi with q | q
      · subst q; exact h1
      · have := anc_lt l hl n e.on (by omega) i q
        omega

/-- A REGION THAT DRAWS ITS ORDER: whatever comes up, the end is the same. -/
theorem draw_sound {P : Program} {E : Env} {B : Base} {n : Nat} (ok : EnvOk P E) {base : Nat} {ops : Array Oper} (hd : ∀ (i : Nat) (o : Oper) (t : Tmp), ops[i]? = some o → o.dst = some t → t < n)
    (hl : ∀ (j : Nat) (o : Oper), ops.toList[j]? = some o → ∀ e, e ∈ o.after.toList → Region.binds .any e = true → e.on < j) {Q : Exit → Act → World → Prop} {s' : St} (hQ : ∀ a w, Sim B n s' a w → Q .normal a w) :
    ∀ (fuel : Nat) (tr : List (Nat × Out)) (listed : Array Bool) (s : St) (a : Act) (w : World), tr.length = fuel → Trc E base ops tr s s' → Sim B n s a w → listed.size = ops.size →
      (tr.map Prod.fst).Pairwise (· < ·) → (∀ i, i < ops.size → (listed.getD i true = false ↔ i ∈ tr.map Prod.fst)) →
      (∀ i, i < ops.size → listed.getD i true = true → ∀ k, k ∈ (anc ops.toList).getD i [] → listed.getD k false = true) →
      (∀ x y, x ∈ tr → y ∈ tr → x.1 < y.1 → x.1 ∉ (anc ops.toList).getD y.1 [] → Ind ops x y) →
      wpAny P .any ops Q fuel listed a w
  | 0, tr, listed, s, a, w, hlen, ht, S, hsz, _, hlist, _, _ => by
    have : tr = [] := List.eq_nil_of_length_eq_zero hlen
    subst this
    have : s' = s := ht
    subst this
    refine ⟨?_, hQ a w S⟩
    rw [List.eq_nil_iff_forall_not_mem]
    intro i hi
    rw [mem_ready] at hi
    obtain ⟨h0, o, ho, _⟩ := hi
    have hlt : i < ops.size := (Array.getElem?_eq_some_iff.1 ho).1
    have := (hlist i hlt).1 h0
    cases this
  | fuel + 1, tr, listed, s, a, w, hlen, ht, S, hsz, hpw, hlist, hdown, hind => by
    have hmem : ∀ x, x ∈ tr → x.1 < ops.size ∧ listed.getD x.1 true = false := fun x hx => by
      have hlt : x.1 < ops.size := by
        have key : ∀ (tr : List (Nat × Out)) (s : St), Trc E base ops tr s s' → ∀ x, x ∈ tr → x.1 < ops.size := fun tr => by
          induction tr with
          | nil => intro s _ x hx; cases hx
          | cons y r ih =>
            intro s ⟨o, ho, _, hr⟩ x hx
            rcases List.mem_cons.1 hx with q | q
            · subst q; exact (Array.getElem?_eq_some_iff.1 ho).1
            · exact ih _ hr x q
        exact key tr s ht x hx
      exact ⟨hlt, (hlist x.1 hlt).2 (List.mem_map.2 ⟨x, hx, rfl⟩)⟩
    refine ⟨fun hnil => ?_, fun i hi => ?_⟩
    · -- the first one is ready
      exfalso
      cases tr with
      | nil => simp at hlen
      | cons x r =>
        obtain ⟨o, ho, _, _⟩ := ht
        have h0 := hmem x (by simp)
        have : x.1 ∈ Region.ready .any ops listed := by
          rw [mem_ready]
          refine ⟨h0.2, o, ho, fun e he hb => ?_⟩
          have hlt := hl x.1 o (by simpa using ho) e (by simpa using he) hb
          have h1 : e.on < ops.size := by omega
          have h2 : ¬ listed.getD e.on true = false := fun q => by
            obtain ⟨y, hy, hyx⟩ := List.mem_map.1 ((hlist e.on h1).1 q)
            rcases List.mem_cons.1 hy with q' | q'
            · subst q'; omega
            · have := (List.pairwise_cons.1 (by simpa using hpw)).1 y.1 (List.mem_map.2 ⟨y, q', rfl⟩)
              omega
          have h3 : e.on < listed.size := by omega
          simp only [Array.getD_eq_getD_getElem?, Array.getElem?_eq_getElem h3, Option.getD_some, Bool.not_eq_false] at h2 ⊢
          exact h2
        rw [hnil] at this; cases this
    · have hi' := hi
      rw [mem_ready] at hi
      obtain ⟨h0, o, ho, hdeps⟩ := hi
      have hlt : i < ops.size := (Array.getElem?_eq_some_iff.1 ho).1
      obtain ⟨x, hx, hxi⟩ := List.mem_map.1 ((hlist i hlt).1 h0)
      subst hxi
      obtain ⟨pre, post, rfl⟩ := List.append_of_mem hx
      -- all that it waits for has come up
      have hanc : ∀ k, k ∈ (anc ops.toList).getD x.1 [] → listed.getD k false = true := fun k hk => by
        rw [anc_get ops.toList x.1 o (by simpa using ho) (hl x.1 o (by simpa using ho))] at hk
        obtain ⟨e, he, hk⟩ := List.mem_flatMap.1 hk
        rw [List.mem_filter] at he
        have h1 := hdeps e (by simpa using he.1) he.2
        rcases List.mem_cons.1 hk with q | q
        · subst q; exact h1
        · have h2 := hl x.1 o (by simpa using ho) e he.1 he.2
          have h3 : e.on < listed.size := by omega
          refine hdown e.on (by omega) ?_ k q
          simp only [Array.getD_eq_getD_getElem?, Array.getElem?_eq_getElem h3, Option.getD_some] at h1 ⊢
          exact h1
      have hpw' : ∀ y, y ∈ pre → y.1 < x.1 := fun y hy => by
        rw [List.map_append, List.map_cons] at hpw
        exact (List.pairwise_append.1 hpw).2.2 y.1 (List.mem_map.2 ⟨y, hy, rfl⟩) x.1 (by simp)
      have hfirst := Trc.first pre x post s (fun y hy => hind y x (by simp [hy]) (by simp) (hpw' y hy) fun q => by
        have h1 := hanc y.1 q
        have h2 := (hmem y (by simp [hy])).2
        have h3 := (hmem y (by simp [hy])).1
        have h4 : y.1 < listed.size := by omega
        simp only [Array.getD_eq_getD_getElem?, Array.getElem?_eq_getElem h4, Option.getD_some] at h1 h2
        rw [h1] at h2; cases h2) ht
      obtain ⟨o', ho', hfire, hrest⟩ := hfirst
      rw [ho] at ho'; cases ho'
      refine fire_sound ok ho (fun t ht => hd x.1 o t ho ht) S hfire fun a' w' S' => ?_
      have hnd : x.1 ∉ (pre ++ post).map Prod.fst := fun q => by
        rw [List.map_append, List.map_cons] at hpw
        obtain ⟨p1, p2, p3⟩ := List.pairwise_append.1 hpw
        rw [List.map_append, List.mem_append] at q
        rcases q with q | q
        · have := p3 x.1 q x.1 (by simp); omega
        · have := (List.pairwise_cons.1 p2).1 x.1 q; omega
      refine draw_sound ok hd hl hQ fuel (pre ++ post) (listed.setIfInBounds x.1 true) _ a' w' (by simp at hlen ⊢; omega) hrest S' (by simp [hsz]) ?_ (fun j hj => ?_) (fun j hj hjt k hk => ?_) (fun y z hy hz => hind y z (by simp only [List.mem_append, List.mem_cons] at hy ⊢; rcases hy with q | q <;> simp [q]) (by simp only [List.mem_append, List.mem_cons] at hz ⊢; rcases hz with q | q <;> simp [q]))
      · refine hpw.sublist ?_
        rw [List.map_append, List.map_append, List.map_cons]
        exact List.Sublist.append_left (List.sublist_cons_self _ _) _
      · by_cases c : j = x.1
        · subst c
          have : (listed.setIfInBounds x.1 true).getD x.1 true = true := by
            have : x.1 < listed.size := by omega
            simp [Array.getD, this]
          rw [this]
          exact ⟨fun q => (by cases q), fun q => absurd q hnd⟩
        · rw [getD_set_ne true (Ne.symm c), hlist j hj]
          simp only [List.map_append, List.map_cons, List.mem_append, List.mem_cons]
          constructor
          · rintro (q | q | q)
            · exact .inl q
            · exact absurd q c
            · exact .inr q
          · rintro (q | q)
            · exact .inl q
            · exact .inr (.inr q)
      · by_cases c : j = x.1
        · subst c
          exact getD_set_true (hanc k hk)
        · rw [getD_set_ne true (Ne.symm c)] at hjt
          exact getD_set_true (hdown j hj hjt k hk)

end Go.K
end
section
/-
  K, part 18: the weakest precondition is met by the machine. No macro, syntax, notation, axiom, sorry.
-/
namespace Go.K
open Go
set_option linter.unusedSectionVars false
set_option linter.unusedVariables false
set_option linter.unusedSimpArgs false

/-- the heap under other numbers -/
def backL (ids olds : List Nat) (k : Nat) : Option Nat :=
  match ids, olds with
  | i :: ir, o :: or => if k = i then some o else backL ir or k
  | _, _ => none

theorem backL_at : ∀ (ids olds : List Nat) (m k o : Nat), ids.Nodup → ids[m]? = some k → olds[m]? = some o → backL ids olds k = some o
  | [], olds, m, k, o, _, h, _ => by simp at h
  | i :: ir, [], m, k, o, _, _, h => by simp at h
  | i :: ir, o' :: or, m, k, o, hn, h1, h2 => by
    obtain ⟨n1, n2⟩ := List.nodup_cons.1 hn
    simp only [backL]
    cases m with
    | zero => simp at h1 h2; subst h1 h2; simp
    | succ m =>
      have h1' : ir[m]? = some k := by simpa using h1
      have : k ≠ i := fun e => by subst e; exact n1 (List.mem_of_getElem? h1')
      rw [if_neg this]
      exact backL_at ir or m k o n2 h1' (by simpa using h2)
theorem backL_some : ∀ (ids olds : List Nat) (k o : Nat), backL ids olds k = some o → ∃ m : Nat, ids[m]? = some k ∧ olds[m]? = some o
  | [], olds, k, o, h => by simp [backL] at h
  | i :: ir, [], k, o, h => by simp [backL] at h
  | i :: ir, o' :: or, k, o, h => by
    simp only [backL] at h
    split at h
    · rename_i e; subst e; cases h; exact ⟨0, rfl, rfl⟩
    · obtain ⟨m, h1, h2⟩ := backL_some ir or k o h
      exact ⟨m + 1, by simpa using h1, by simpa using h2⟩
theorem forth_some : ∀ (ids olds : List Nat) (o k : Nat), forth ids olds o = some k → ∃ m : Nat, ids[m]? = some k ∧ olds[m]? = some o
  | [], olds, k, o, h => by simp [forth] at h
  | i :: ir, [], k, o, h => by simp [forth] at h
  | i :: ir, o' :: or, o, k, h => by
    simp only [forth] at h
    split at h
    · rename_i e; subst e; cases h; exact ⟨0, rfl, rfl⟩
    · obtain ⟨m, h1, h2⟩ := forth_some ir or o k h
      exact ⟨m + 1, by simpa using h1, by simpa using h2⟩
theorem lookH_some : ∀ (ids : List Nat) (bs : List Blk) (k : Nat) (b : Blk), lookH ids bs k = some b → ∃ m : Nat, ids[m]? = some k ∧ bs[m]? = some b
  | [], olds, k, o, h => by simp [lookH] at h
  | i :: ir, [], k, o, h => by simp [lookH] at h
  | i :: ir, o' :: or, k, o, h => by
    simp only [lookH] at h
    split at h
    · rename_i e; subst e; cases h; exact ⟨0, rfl, rfl⟩
    · obtain ⟨m, h1, h2⟩ := lookH_some ir or k o h
      exact ⟨m + 1, by simpa using h1, by simpa using h2⟩
theorem lookH_none : ∀ (ids : List Nat) (bs : List Blk) (k : Nat), ids.length = bs.length → lookH ids bs k = none → k ∉ ids
  | [], bs, k, _, _ => by simp
  | i :: ir, [], k, hl, _ => by simp at hl
  | i :: ir, b :: br, k, hl, h => by
    simp only [lookH] at h
    split at h
    · cases h
    · rename_i hne
      have := lookH_none ir br k (by simpa using hl) h
      simp [hne, this]
theorem lookL_some : ∀ (ks : List Nat) (f : Nat → V) (t : Nat), lookL ks (ks.map f) t = f t ∨ lookL ks (ks.map f) t = .junk
  | [], f, t => .inr rfl
  | k :: kr, f, t => by
    simp only [List.map_cons, lookL]
    split
    · rename_i e; subst e; exact .inl rfl
    · exact lookL_some kr f t

section
variable {ι : Nat → Option Value} {imm : Nat → Prop} {h : Heap} {w : World}

theorem Inv.renamed (I : Inv ι imm h w) {ids olds : List Nat} {bs : List Blk} (hb : getAll h olds = some bs) (hid : ids.Nodup) (hol : olds.Nodup) (hl : ids.length = olds.length) {f : Nat → Option Nat}
    (hf : ∀ o k, f o = some k → ∃ m : Nat, ids[m]? = some k ∧ olds[m]? = some o) {h' : Heap} (h1 : ∀ k B, h' k = some B → ∃ (m : Nat) (B0 : Blk), ids[m]? = some k ∧ bs[m]? = some B0 ∧ B = renB f B0) (h2 : ∀ k, h' k = none → k ∉ ids) :
    Inv (fun k => (backL ids olds k).bind ι) imm h' w ∧ (∀ g, Owned (fun k => (backL ids olds k).bind ι) h' g → Owned ι h g) ∧ (∀ i k v, f i = some k → ι i = some v → (backL ids olds k).bind ι = some v) := by
  obtain ⟨b1, b2⟩ := getAll_ok _ _ hb
  have hι : ∀ i k v, f i = some k → ι i = some v → (backL ids olds k).bind ι = some v := fun i k v hk hv => by
    obtain ⟨m, q1, q2⟩ := hf i k hk
    rw [backL_at ids olds m k i hid q1 q2]
    exact hv
  have hcase : ∀ k B, h' k = some B → ∃ (m : Nat) (o : Nat) (B0 : Blk) (v : Value), ids[m]? = some k ∧ olds[m]? = some o ∧ h o = some B0 ∧ B = renB f B0 ∧ ι o = some v ∧ (backL ids olds k).bind ι = some v ∧ BlkRep ι imm w B0 v := fun k B hB => by
    obtain ⟨m, B0, q1, q2, rfl⟩ := h1 k B hB
    have hm : m < olds.length := by have := (List.getElem?_eq_some_iff.1 q1).1; omega
    have q3 : olds[m]? = some olds[m] := List.getElem?_eq_getElem hm
    obtain ⟨B1, q4, q5⟩ := b2 m _ q3
    rw [q2] at q4; cases q4
    obtain ⟨v, q6, q7⟩ := I.blk _ _ q5
    exact ⟨m, _, B0, v, q1, q3, q5, rfl, q6, by rw [backL_at ids olds m k _ hid q1 q3]; exact q6, q7⟩
  have own : ∀ g, Owned (fun k => (backL ids olds k).bind ι) h' g → Owned ι h g := fun g ⟨k, B, v, q1, q2, q3, q4⟩ => by
    obtain ⟨m, o, B0, u, _, _, p1, rfl, p2, p3, _⟩ := hcase k B q1
    have q3' : (backL ids olds k).bind ι = some v := q3
    rw [p3] at q3'; cases q3'
    exact ⟨o, B0, _, p1, by rw [live_renB] at q2; exact q2, p2, q4⟩
  refine ⟨⟨fun k B hB => ?_, fun k hk => ?_, fun g o => I.own g (own g o), ?_, I.lt⟩, own, hι⟩
  · obtain ⟨m, o, B0, v, _, _, _, rfl, _, p3, p4⟩ := hcase k B hB
    exact ⟨v, p3, renB_rep hι p4⟩
  · have := h2 k hk
    cases hq : backL ids olds k with
    | none => simp [hq]
    | some o =>
      obtain ⟨m, q1, _⟩ := backL_some ids olds k o hq
      exact absurd (List.mem_of_getElem? q1) this
  · intro k1 k2 B1 B2 v1 v2 g q1 q2 l1 l2 e1 e2 g1 g2
    obtain ⟨m1, o1, A1, u1, a1, a2, a3, rfl, a4, a5, _⟩ := hcase k1 B1 q1
    obtain ⟨m2, o2, A2, u2, c1, c2, c3, rfl, c4, c5, _⟩ := hcase k2 B2 q2
    have e1' : (backL ids olds k1).bind ι = some v1 := e1
    have e2' : (backL ids olds k2).bind ι = some v2 := e2
    rw [a5] at e1'; cases e1'
    rw [c5] at e2'; cases e2'
    rw [live_renB] at l1 l2
    have := I.inj o1 o2 A1 A2 _ _ g a3 c3 l1 l2 a4 c4 g1 g2
    subst this
    have hm : m1 = m2 := by
      obtain ⟨t1, t2⟩ := List.getElem?_eq_some_iff.1 a2
      obtain ⟨t3, t4⟩ := List.getElem?_eq_some_iff.1 c2
      exact (List.getElem_inj hol).1 (t2.trans t4.symm)
    subst hm
    rw [a1] at c1; cases c1; rfl

end

/-- the base's blocks are numbered below m -/
def BaseOk (B : Base) (m : Nat) : Prop := m ≤ 1000 ∧ ∀ id v, B.ι id = some v → id < m

theorem kept_sound {B : Base} {n m : Nat} (hB : BaseOk B m) {ks ids olds : List Nat} {s : St} {I : List V → List Blk → Prop} (hk : kept m ks ids olds s I) {a : Act} {w : World} (S : Sim B n s a w) :
    ∃ vs bs, vs.length = ks.length ∧ bs.length = ids.length ∧ I vs bs ∧ Sim B n (stOf ks vs ids bs) a w := by
  obtain ⟨hr, hk⟩ := hk
  simp only [renOk, Bool.and_eq_true, beq_iff_eq] at hr
  obtain ⟨⟨⟨⟨r1, r2⟩, r3⟩, r4⟩, r5⟩ := hr
  split at hk
  · rename_i bs hb
    obtain ⟨b1, b2⟩ := getAll_ok _ _ hb
    refine ⟨_, _, by simp, by simp [b1, r1], hk, ?_⟩
    obtain ⟨ι, imm, e, Iv, h1, h2, h3⟩ := S
    have hn1 := nodupB_ok _ r3
    have hn2 := nodupB_ok _ r2
    obtain ⟨I', own, hι⟩ := Iv.renamed (h' := lookH ids (bs.map (renB (forth ids olds)))) hb hn1 hn2 r1 (fun o k => forth_some ids olds o k) (fun k B hB => by
      obtain ⟨m, q1, q2⟩ := lookH_some _ _ _ _ hB
      rw [List.getElem?_map] at q2
      cases hq : bs[m]? with
      | none => rw [hq] at q2; cases q2
      | some B0 => rw [hq] at q2; cases q2; exact ⟨m, B0, q1, hq, rfl⟩) (fun k hk => lookH_none _ _ k (by simp [b1, r1]) hk)
    refine ⟨_, imm, ⟨fun id v hv => ?_, e.immS, e.immR, fun g o => e.own' g (own g o), e.keep, e.size, e.os, e.tape, e.output⟩, I', h1, h2, fun t => ?_⟩
    · have hlt := hB.2 id v hv
      have hmem : id ∈ ids := by
        have := List.all_eq_true.1 r5 id (by simpa using hlt)
        simpa using this
      obtain ⟨p, hp⟩ := List.mem_iff_getElem?.1 hmem
      have hpl : p < olds.length := by have := (List.getElem?_eq_some_iff.1 hp).1; omega
      have hz : (ids.zip olds)[p]? = some (id, olds[p]) := by
        rw [List.getElem?_zip_eq_some]
        exact ⟨hp, List.getElem?_eq_getElem hpl⟩
      have hq := List.all_eq_true.1 r4 _ (List.mem_of_getElem? hz)
      have : olds[p] = id := by
        simp only [Bool.or_eq_true, beq_iff_eq, Bool.and_eq_true, decide_eq_true_eq] at hq
        rcases hq with q | ⟨q, _⟩
        · exact q.symm
        · have := hB.1; omega
      show (backL ids olds id).bind ι = some v
      rw [backL_at ids olds p id olds[p] hn1 hp (List.getElem?_eq_getElem hpl), this]
      exact e.ids id v hv
    · show RepV _ imm w (lookL ks _ t) _
      rcases lookL_some ks (fun t => ren (forth ids olds) (s.sl t)) t with q | q
      · rw [q]; exact ren_rep hι (h3 t)
      · rw [q]; trivial
  · exact hk.elim

/-- what is asked of a function's code -/
def codeOk (n : Nat) : Code → Bool
  | .skip | .exit _ | .ret => true
  | .region _ ops draw => regOk n ops draw
  | .seq a b => codeOk n a && codeOk n b
  | .cond _ a b => codeOk n a && codeOk n b
  | .block _ b => codeOk n b
  | .loop b => codeOk n b
  | _ => false

def xOf : Exit → Option X
  | .normal => some .normal
  | .exit id => some (.exit id)
  | .ret => some .ret
  | _ => none
def Post (B : Base) (n : Nat) (Q : X → St → Prop) (e : Exit) (a : Act) (w : World) : Prop := ∃ x s, xOf e = some x ∧ Sim B n s a w ∧ Q x s

theorem regOk_edges {n : Nat} {ops : Array Oper} (h : regOk n ops true = true) : ∀ (j : Nat) (o : Oper), ops.toList[j]? = some o → ∀ e, e ∈ o.after.toList → Region.binds .any e = true → e.on < j := fun j o hj e he hb => by
  simp only [regOk, Bool.and_eq_true, Bool.not_true, Bool.false_or] at h
  have hj' : ops[j]? = some o := by simpa using hj
  have hlt : j < ops.size := (Array.getElem?_eq_some_iff.1 hj').1
  have := List.all_eq_true.1 h.2.1 j (by simpa using hlt)
  rw [hj'] at this
  have := List.all_eq_true.1 this e he
  simpa [hb] using this

theorem regOk_apart {n : Nat} {ops : Array Oper} (h : regOk n ops true = true) {i j : Nat} (hne : i ≠ j) (h1 : i ∉ (anc ops.toList).getD j []) (h2 : j ∉ (anc ops.toList).getD i []) {x y : Oper} (hx : ops[i]? = some x) (hy : ops[j]? = some y) :
    x.apart ops y = true := by
  simp only [regOk, Bool.and_eq_true, Bool.not_true, Bool.false_or] at h
  have li : i < ops.size := (Array.getElem?_eq_some_iff.1 hx).1
  have lj : j < ops.size := (Array.getElem?_eq_some_iff.1 hy).1
  have := List.all_eq_true.1 (List.all_eq_true.1 h.2.2 i (by simpa using li)) j (by simpa using lj)
  rw [hx, hy] at this
  simp only [Bool.or_eq_true, beq_iff_eq] at this
  rcases this with ((q | q) | q) | q
  · exact absurd q hne
  · exact absurd (ancM_ok _ _ _ q) h1
  · exact absurd (ancM_ok _ _ _ q) h2
  · exact q

theorem wp_sound {P : Program} {E : Env} {B : Base} {n : Nat} (ok : EnvOk P E) (hmix : P.follows .mixedOrders = true) (hB : BaseOk B E.m) :
    ∀ (c : Code) (s : St) (Q : X → St → Prop) (a : Act) (w : World), codeOk n c = true → wp Ω E c s Q → Sim B n s a w → c.wp P (Post B n Q) a w
  | .skip, s, Q, a, w, _, h, S => wp_skip ⟨.normal, s, rfl, S, h⟩
  | .exit id, s, Q, a, w, _, h, S => wp_exit ⟨.exit id, s, rfl, S, h⟩
  | .ret, s, Q, a, w, _, h, S => wp_ret ⟨.ret, s, rfl, S, h⟩
  | .region id ops draw, s, Q, a, w, hc, h, S => by
    have hc' : regOk n ops draw = true := hc
    cases draw with
    | false =>
      refine wp_region ?_
      have := wpl_sound ok (regOk_dst hc') (Q := Post B n Q) ops.toList 0 (fun j => by simp) [] s a w _ h S (fun log s' a' w' hq S' => ⟨.normal, s', rfl, S', hq.2⟩)
      rw [List.range_eq_range', ← Array.length_toList]
      exact this
    | true =>
      refine wp_region_any hmix ?_
      have h' : wpl Ω E true (1000 + 100 * id) ops ops.toList 0 [] s fun log s' => (if true then logOk (ancM ops.toList) log = true else True) ∧ Q .normal s' := h
      obtain ⟨tr, s', t1, t2, t3, t4⟩ := wpl_trc ops.toList 0 (fun j => by simp) _ s _ h'
      simp only [if_true, List.append_nil] at t3
      have hlen : tr.length = ops.size := by
        have := congrArg List.length t1
        simpa using this
      refine draw_sound ok (regOk_dst hc') (regOk_edges hc') (Q := Post B n Q) (s' := s') (fun a w S' => ⟨.normal, s', rfl, S', t4⟩) ops.size tr _ s a _ hlen t2 S.drew (by simp) ?_ (fun i hi => ?_) (fun i hi hl => ?_) (fun x y hx hy hxy hanc => ?_)
      · rw [t1]; exact List.pairwise_lt_range'
      · rw [t1]
        simp [Array.getD, hi]
      · simp [Array.getD, hi] at hl
      · have h2 : y.1 ∉ (anc ops.toList).getD x.1 [] := fun q => by
          have := anc_lt ops.toList (regOk_edges hc') (x.1 + 1) x.1 (Nat.lt_succ_self _) y.1 q
          omega
        have log : ∀ u v, u ∈ tr → v ∈ tr → u.1 ≠ v.1 → u.1 ∉ (anc ops.toList).getD v.1 [] → v.1 ∉ (anc ops.toList).getD u.1 [] → ∀ i, i ∈ wrOf u.2 → i ∉ rdOf v.2 := fun u v hu hv hne q1 q2 i hi hi' => by
          have k1 := List.all_eq_true.1 t3 ⟨u.1, rdOf u.2, wrOf u.2⟩ (by simp only [List.mem_reverse, List.mem_map]; exact ⟨u, hu, rfl⟩)
          simp only [Bool.or_eq_true, List.isEmpty_iff] at k1
          rcases k1 with k1 | k1
          · have k1' : wrOf u.2 = [] := k1
            rw [k1'] at hi; cases hi
          · have k2 := List.all_eq_true.1 k1 ⟨v.1, rdOf v.2, wrOf v.2⟩ (by simp only [List.mem_reverse, List.mem_map]; exact ⟨v, hv, rfl⟩)
            simp only [Bool.or_eq_true, beq_iff_eq, Bool.not_eq_true'] at k2
            rcases k2 with ((k | k) | k) | k
            · exact hne k.symm.symm
            · have : meets (wrOf u.2) (rdOf v.2) = true := by
                simp only [meets, List.any_eq_true]
                exact ⟨i, hi, by simpa using hi'⟩
              rw [this] at k; cases k
            · exact q1 (ancM_ok _ _ _ k)
            · exact q2 (ancM_ok _ _ _ k)
        refine ⟨fun ox oy hox hoy => regOk_apart hc' (by omega) hanc h2 hox hoy, log x y hx hy (by omega) hanc h2, log y x hy hx (by omega) h2 hanc⟩
  | .seq c d, s, Q, a, w, hc, h, S => by
    simp only [codeOk, Bool.and_eq_true] at hc
    refine wp_seq (wp_mono (wp_sound ok hmix hB c s _ a w hc.1 h S) ?_)
    rintro e a' w' ⟨x, s', hx, S', hq⟩
    cases e with
    | normal => cases hx; exact wp_sound ok hmix hB d s' Q a' w' hc.2 hq S'
    | exit id => cases hx; exact ⟨_, s', rfl, S', hq⟩
    | ret => cases hx; exact ⟨_, s', rfl, S', hq⟩
    | _ => cases hx
  | .cond c x y, s, Q, a, w, hc, h, S => by
    simp only [codeOk, Bool.and_eq_true] at hc
    simp only [wp] at h
    split at h
    · rename_i t ht
      have hev : a.eval c = .bool t := by
        obtain ⟨ι, imm, _, _, _, _, h3⟩ := S
        have := ev_rep h3 c
        rw [ht] at this
        exact repB this
      exact wp_cond_split hev (fun q => wp_sound ok hmix hB x s Q a w hc.1 (by subst q; rw [BrG_eq] at h; exact h) S) (fun q => wp_sound ok hmix hB y s Q a w hc.2 (by subst q; rw [BrG_eq] at h; exact h) S)
    · exact h.elim
  | .block id c, s, Q, a, w, hc, h, S => by
    refine wp_block (wp_mono (wp_sound ok hmix hB c s _ a w hc h S) ?_)
    rintro e a' w' ⟨x, s', hx, S', hq⟩
    cases e with
    | normal => cases hx; exact ⟨_, s', rfl, S', hq⟩
    | exit j =>
      cases hx
      have hq' : if j = id then Q .normal s' else Q (.exit j) s' := hq
      simp only [Exit.inBlock]
      by_cases c : j = id
      · rw [if_pos c] at hq' ⊢
        exact ⟨_, s', rfl, S', hq'⟩
      · rw [if_neg c] at hq' ⊢
        exact ⟨_, s', rfl, S', hq'⟩
    | ret => cases hx; exact ⟨_, s', rfl, S', hq⟩
    | _ => cases hx
  | .loop c, s, Q, a, w, hc, h, S => by
    obtain ⟨σ, ks, ids, fv, fb, I, μ, ⟨x0, olds, hI, hk⟩, hround⟩ := h
    obtain ⟨vs, bs, l1, l2, ⟨rfl, rfl⟩, S1⟩ := kept_sound hB hk S
    refine wp_loop_ghost (fun k a w => ∃ x, I x ∧ μ x = k ∧ Sim B n (stOf ks (fv x) (ids x) (fb x)) a w) (μ x0) ⟨x0, hI, rfl, S1⟩ ?_
    rintro k a1 w1 ⟨y, hI, rfl, S1⟩
    refine wp_mono (wp_sound ok hmix hB c _ _ a1 w1 hc (hround y hI) S1) ?_
    rintro e a' w' ⟨x, s', hx, S', hq⟩
    cases e with
    | normal =>
      cases hx
      obtain ⟨z, olds', hI', hμ, hk'⟩ := hq
      obtain ⟨vs', bs', l1', l2', ⟨rfl, rfl⟩, S2⟩ := kept_sound hB hk' S'
      exact ⟨_, hμ, z, hI', rfl, S2⟩
    | exit j => cases hx; exact ⟨_, s', rfl, S', hq⟩
    | ret => cases hx; exact ⟨_, s', rfl, S', hq⟩
    | _ => cases hx

end Go.K
end
section
/-
  K, part 19: from the weakest precondition to what is shown of a function. No macro, syntax, notation, axiom, sorry.
-/
namespace Go.K
open Go
set_option linter.unusedSectionVars false
set_option linter.unusedVariables false
set_option linter.unusedSimpArgs false

section
variable {ι : Nat → Option Value} {imm : Nat → Prop} {w : World} {P : Program} {tt : TypeId → Option TInfo}

theorem resOne_ok (ht : TTok P tt) {s : St} (I : Inv ι imm s.h w) {tmps : Array Value} (hr : ∀ t, RepV ι imm w (s.sl t) (tmps.getD t undef)) {rv : ResultVar} {v : V} (h : resOne tt s rv = some v) :
    ∃ x, (match rv with | .tmp t => pure (tmps.getD t undef) | .cell a t => do loadVar t (← asAddr (tmps.getD a undef)) : Sem Value).run P w = .ok x w ∧ RepV0 ι imm w v x := by
  cases rv with
  | tmp t =>
    refine ⟨tmps.getD t undef, rfl, ?_⟩
    have := hr t
    simp only [resOne] at h
    generalize s.sl t = q at h this
    cases q <;> first | (cases h; done) | (cases h; exact this)
  | cell a T =>
    simp only [resOne] at h
    split at h
    · rename_i i j off hT hs
      have hTT := ht _ _ hT
      split at h
      · rename_i cs hj
        split at h
        · rename_i hc
          cases h
          have h1 := hr a
          rw [hs] at h1
          obtain ⟨g, q1, q2⟩ := h1
          obtain ⟨v', h4, g', vs, T', h5, h6, h7, h8⟩ := I.blk j _ hj
          rw [q1] at h4; cases h4; cases h5
          have hone : isAggT i.und = false → i.size = 1 := fun q => hc.2.resolve_left (by rw [q]; decide)
          have hrun := run_loadVar_at hTT w (off := off) h6 (by omega) hone
          have hrep := shape_take (ι := ι) h7 h8 hc.1 hone
          refine ⟨_, (by simp only [q2, asAddr, Sem.run_bind, Sem.run_pure, Result.andThen_ok, hrun]; rfl), ?_⟩
          cases ha : isAggT i.und with
          | true => rw [ha] at hrep; exact hrep
          | false =>
            rw [ha] at hrep
            generalize hq : shapeV false ((cs.drop off).take i.size) = q at hrep ⊢
            cases q with
            | tup l =>
              exfalso
              have hn := hone ha
              rw [hn] at hq
              have hlt : off < cs.length := by omega
              have h9 : shapeV false ((cs.drop off).take 1) = cs.getD off .junk := by
                simp [shapeV, List.headD, List.getD, hlt, List.take_one, List.head?_drop]
              rw [h9] at hq
              have := (h8 off hlt).1
              rw [hq] at this
              exact this
            | _ => exact hrep
        · cases h
      · cases h
    · cases h

theorem resList_ok (ht : TTok P tt) {s : St} (I : Inv ι imm s.h w) {tmps : Array Value} (hr : ∀ t, RepV ι imm w (s.sl t) (tmps.getD t undef)) : ∀ (l : List ResultVar) (vs : List V), resList tt s l = some vs →
    ∃ xs : List Value, (l.mapM fun (x : ResultVar) => (match x with | .tmp t => pure (tmps.getD t undef) | .cell a t => do loadVar t (← asAddr (tmps.getD a undef)) : Sem Value)).run P w = .ok xs w ∧ xs.length = vs.length ∧
      ∀ j, j < vs.length → RepV0 ι imm w (vs.getD j .junk) (xs.getD j undef)
  | [], vs, h => by cases h; exact ⟨[], rfl, rfl, fun j hj => absurd hj (Nat.not_lt_zero _)⟩
  | r :: l, vs, h => by
    simp only [resList] at h
    split at h
    · rename_i v vs' h1 h2
      cases h
      obtain ⟨x, k1, k2⟩ := resOne_ok ht I hr h1
      obtain ⟨xs, k3, k4, k5⟩ := resList_ok ht I hr l vs' h2
      refine ⟨x :: xs, ?_, by simp [k4], fun j hj => ?_⟩
      · rw [List.mapM_cons, Sem.run_bind, k1]
        simp only [Result.andThen_ok, Sem.run_bind, k3, Sem.run_pure]
      · cases j with
        | zero => exact k2
        | succ j => exact k5 j (by simpa using hj)
    · cases h

theorem resOf_ok (ht : TTok P tt) {s : St} (I : Inv ι imm s.h w) {fn : Func} {tmps : Array Value} (hr : ∀ t, RepV ι imm w (s.sl t) (tmps.getD t undef)) {r : V} (h : resOf tt s fn.results.toList = some r) :
    ∃ v, (results fn tmps).run P w = .ok v w ∧ RepV ι imm w r v := by
  have key : ∃ vs, resList tt s fn.results.toList = some vs ∧ ((∃ v, vs = [v] ∧ r = v) ∨ (vs.length ≠ 1 ∧ r = .tup vs)) := by
    unfold resOf at h
    split at h
    · rename_i v hv; cases h; exact ⟨_, hv, .inl ⟨_, rfl, rfl⟩⟩
    · rename_i vs hne hv; cases h
      refine ⟨vs, hv, .inr ⟨fun q => ?_, rfl⟩⟩
      obtain ⟨v, rfl⟩ := List.length_eq_one_iff.1 q
      exact hne v rfl
    · cases h
  obtain ⟨vs, hvs, hcase⟩ := key
  obtain ⟨xs, h1, h2, h3⟩ := resList_ok ht I hr _ _ hvs
  have hm : (fn.results.mapM fun (x : ResultVar) => (match x with | .tmp t => pure (tmps.getD t undef) | .cell a t => do loadVar t (← asAddr (tmps.getD a undef)) : Sem Value)).run P w = .ok xs.toArray w := by
    have : fn.results.mapM (fun (x : ResultVar) => (match x with | .tmp t => pure (tmps.getD t undef) | .cell a t => do loadVar t (← asAddr (tmps.getD a undef)) : Sem Value)) = (do
        let l ← fn.results.toList.mapM fun (x : ResultVar) => (match x with | .tmp t => pure (tmps.getD t undef) | .cell a t => do loadVar t (← asAddr (tmps.getD a undef)) : Sem Value)
        pure l.toArray) := by
      rw [Array.mapM_eq_mapM_toList]
      rfl
    rw [this, Sem.run_bind, h1]
    rfl
  have hres : (results fn tmps).run P w = .ok (if h : xs.toArray.size = 1 then xs.toArray[0] else .tuple xs.toArray) w := by
    unfold results
    rw [Sem.run_bind]
    erw [hm]
    rfl
  refine ⟨_, hres, ?_⟩
  rcases hcase with ⟨v, rfl, rfl⟩ | ⟨hne, rfl⟩
  · have hl : xs.length = 1 := h2
    obtain ⟨x, rfl⟩ := List.length_eq_one_iff.1 hl
    have := h3 0 (by simp)
    exact V_of_V0 this
  · have hl : ¬ xs.toArray.size = 1 := by simp; omega
    rw [dif_neg hl]
    exact ⟨xs.toArray, rfl, by simp [h2], fun j hj => by
      have := h3 j hj
      have hj' : j < xs.length := by omega
      have e : xs.toArray.getD j undef = xs.getD j undef := by simp [Array.getD, hj', List.getD]
      rw [e]; exact this⟩


theorem finV_ok {h : Heap} {s : St} (I : Inv ι imm s.h w) {r r' : V} {v : Value} (hr : RepV ι imm w r v) (hf : finV Ω s.h r = some r') :
    ∃ imm' h1, Inv ι imm' h1 w ∧ Evo ι imm s.h w ι imm' h1 w ∧ RepV (fun _ => none) imm' w r' v := by
  have one : ∀ (y : V) (x : Value) (d : D) (L : List Nat) (imm' : Nat → Prop) (I' : Inv ι imm' (ups s.h (freezeL s.h L)) w) (e : Evo ι imm s.h w ι imm' (ups s.h (freezeL s.h L)) w), (∀ i, i ∈ idsOf y → i ∈ L) → RepV ι imm w y x → toD Ω s.h y = some d → RepD imm' w d x :=
    fun y x d L imm' I' e hL hy hd => toD_rep I' (fun i hi l e z xs hx => freezeL_done s.h L i (hL i hi) l e z xs hx) (hy.evo I e) hd
  by_cases ht : ∃ cs, r = .tup cs
  · obtain ⟨cs, rfl⟩ := ht
    simp only [finV] at hf
    split at hf
    · rename_i ds hds
      cases hf
      obtain ⟨imm', I', e⟩ := Inv.freezeL (cs.flatMap idsOf) I
      obtain ⟨d1, d2⟩ := toDs_ok _ _ hds
      obtain ⟨vs, h1, h2, h3⟩ := hr
      refine ⟨imm', _, I', e, vs, h1, by simp; omega, fun j hj => ?_⟩
      have hj' : j < ds.length := by simpa using hj
      have hjc : j < cs.length := by omega
      have e1 : (ds.map V.d).getD j .junk = .d (ds.getD j .np) := by simp [List.getD, hj']
      rw [e1]
      refine one (cs.getD j .junk) _ _ _ _ I' e (fun i hi => List.mem_flatMap.2 ⟨cs.getD j .junk, ?_, hi⟩) (V_of_V0 (h3 j hjc)) (d2 j hjc)
      rw [List.getD_eq_getElem?_getD, List.getElem?_eq_getElem hjc]
      exact List.getElem_mem hjc
    · cases hf
  · have hf' : ∃ d, toD Ω s.h r = some d ∧ r' = .d d := by
      unfold finV at hf
      split at hf
      · exact absurd ⟨_, rfl⟩ ht
      · split at hf
        · rename_i d hd; cases hf; exact ⟨d, hd, rfl⟩
        · cases hf
    obtain ⟨d, hd, rfl⟩ := hf'
    obtain ⟨imm', I', e⟩ := Inv.freezeL (idsOf r) I
    exact ⟨imm', _, I', e, one r v d _ _ I' e (fun i hi => hi) hr hd⟩

end

theorem argS_rep {ι : Nat → Option Value} {imm : Nat → Prop} {w : World} {args : List V} {vs : Array Value} {k : Nat} (hs : vs.size = args.length) (h : ∀ j, j < args.length → RepV ι imm w (args.getD j .junk) (vs.getD j undef)) :
    ∀ t, RepV ι imm w (argS args t) ((vs ++ Array.replicate k undef).getD t undef) := fun t => by
  by_cases c : t < args.length
  · have := h t c
    have hv : t < vs.size := by omega
    have e : (vs ++ Array.replicate k undef).getD t undef = vs.getD t undef := by
      simp [Array.getD_eq_getD_getElem?, Array.getElem?_append, hv]
    rw [e]; exact this
  · have : argS args t = .junk := by
      unfold argS; rw [List.getD_eq_getElem?_getD, List.getElem?_eq_none (by omega)]; rfl
    rw [this]; trivial

/-- FROM THE CODE TO THE FUNCTION: one that only reckons. -/
theorem good_of_wpF {P : Program} {E : Env} {f : FuncId} {fn : Func} {args : List V} {r : V} (ok : EnvOk P E) (hmix : P.follows .mixedOrders = true) (hm : E.m = 0) (hf : P.funcs[f]? = some fn) (hn : (fn.name == "runtime.NumGoroutine") = false)
    (hc : (match fn.body with | some c => codeOk fn.ntmps c | none => false) = true) (ha : args.length ≤ fn.ntmps) (h : wpF Ω E fn args (fun x => x = r)) : Good P f args [] r [] := by
  unfold wpF at h
  cases hb : fn.body with
  | none => rw [hb] at hc; cases hc
  | some c =>
    rw [hb] at h hc
    simp only at h hc
    refine ⟨⟨fn, hf, hn, by rw [hb]; rfl⟩, fun ι imm w vs I hs hr => ?_⟩
    have h0 : mkH [] = fun _ => none := by funext id; exact mkH_nil id
    let B : Base := ⟨ι, imm, mkH [], w⟩
    have hB : BaseOk B E.m := ⟨by omega, fun id v hv => by
      have : ι id = none := I.non id (mkH_nil id)
      have hv' : ι id = some v := hv
      rw [this] at hv'; cases hv'⟩
    refine calls_of_wp hf hb (wp_mono (wp_sound (B := B) (n := fn.ntmps) ok hmix hB c _ _ _ w hc h ⟨ι, imm, by rw [← h0]; exact .refl _ _ _ _, by rw [← h0]; exact I, by simp; omega, rfl, argS_rep hs hr⟩) ?_)
    rintro e a' w' ⟨x, s', hx, S', hq⟩
    have fin : (match resOf E.tt s' fn.results.toList with
        | some r0 => match finV Ω s'.h r0 with
          | some r' => r' = r
          | none => False
        | none => False) → a'.defers = [] ∧ ∃ v, (results fn a'.tmps).run P w' = .ok v w' ∧ ∃ v0 ι' imm', Ending.returned v = .returned v0 ∧ Evo ι imm (mkH []) w ι' imm' (mkH []) w' ∧ Inv ι' imm' (mkH []) w' ∧ RepV ι' imm' w' r v0 := fun hq => by
      obtain ⟨ι1, imm1, e1, I1, q1, q2, q3⟩ := S'
      split at hq
      · rename_i r0 hr0
        split at hq
        · rename_i r' hr'
          subst hq
          obtain ⟨v, k1, k2⟩ := resOf_ok ok.tt I1 (fn := fn) q3 hr0
          obtain ⟨imm2, h2, I2, e2, k3⟩ := finV_ok (h := s'.h) I1 k2 hr'
          have e3 := e1.trans e2
          refine ⟨q2, v, k1, v, fun _ => none, imm2, rfl, ⟨fun id v hv => ?_, e3.immS, e3.immR, fun g o => absurd o (not_owned_nil _ g), e3.keep, e3.size, e3.os, e3.tape, e3.output⟩,
            ⟨fun id B hid => (by rw [mkH_nil] at hid; cases hid), fun _ _ => rfl, fun g o => absurd o (not_owned_nil _ g), fun a b A B x y g h1 => (by rw [mkH_nil] at h1; cases h1), I2.lt⟩, k3⟩
          have : ι id = none := I.non id (mkH_nil id)
          rw [this] at hv; cases hv
        · exact hq.elim
      · exact hq.elim
    cases e with
    | normal => cases hx; exact fin hq
    | ret => cases hx; exact fin hq
    | exit id => cases hx; exact hq.elim
    | _ => cases hx

/-- FROM THE CODE TO THE FUNCTION: one that is handed blocks. -/
theorem good_of_wpF2 {P : Program} {E : Env} {f : FuncId} {fn : Func} {args : List V} {bs bs' : List Blk} {r : V} (ok : EnvOk P E) (hmix : P.follows .mixedOrders = true) (hm : E.m = bs.length) (hm2 : bs.length ≤ 1000) (hf : P.funcs[f]? = some fn)
    (hn : (fn.name == "runtime.NumGoroutine") = false) (hc : (match fn.body with | some c => codeOk fn.ntmps c | none => false) = true) (ha : args.length ≤ fn.ntmps) (h : wpF2 Ω E fn args bs (fun x b => x = r ∧ b = bs')) : Good P f args bs r bs' := by
  unfold wpF2 at h
  cases hb : fn.body with
  | none => rw [hb] at hc; cases hc
  | some c =>
    rw [hb] at h hc
    simp only at h hc
    refine ⟨⟨fn, hf, hn, by rw [hb]; rfl⟩, fun ι imm w vs I hs hr => ?_⟩
    let B : Base := ⟨ι, imm, mkH bs, w⟩
    have hdom : ∀ id v, ι id = some v → id < bs.length := fun id v hv => by
      rcases Nat.lt_or_ge id bs.length with q | q
      · exact q
      · have : ι id = none := I.non id (by simp only [mkH]; exact List.getElem?_eq_none q)
        rw [this] at hv; cases hv
    have hB : BaseOk B E.m := ⟨by omega, fun id v hv => by have := hdom id v hv; omega⟩
    refine calls_of_wp hf hb (wp_mono (wp_sound (B := B) (n := fn.ntmps) ok hmix hB c _ _ _ w hc h ⟨ι, imm, .refl _ _ _ _, I, by simp; omega, rfl, argS_rep hs hr⟩) ?_)
    rintro e a' w' ⟨x, s', hx, S', hq⟩
    have fin : (match resOf E.tt s' fn.results.toList with
        | some r0 => ∃ news, nodupB (List.range bs.length ++ news) = true ∧ match getAll s'.h (List.range bs.length ++ news) with
          | some b => ren (fore (List.range bs.length ++ news)) r0 = r ∧ b.map (renB (fore (List.range bs.length ++ news))) = bs'
          | none => False
        | none => False) → a'.defers = [] ∧ ∃ v, (results fn a'.tmps).run P w' = .ok v w' ∧ ∃ v0 ι' imm', Ending.returned v = .returned v0 ∧ Evo ι imm (mkH bs) w ι' imm' (mkH bs') w' ∧ Inv ι' imm' (mkH bs') w' ∧ RepV ι' imm' w' r v0 := fun hq => by
      obtain ⟨ι1, imm1, e1, I1, q1, q2, q3⟩ := S'
      split at hq
      · rename_i r0 hr0
        obtain ⟨news, hnd, hq⟩ := hq
        split at hq
        · rename_i b hb'
          obtain ⟨rfl, rfl⟩ := hq
          obtain ⟨v, k1, k2⟩ := resOf_ok ok.tt I1 (fn := fn) q3 hr0
          have hn2 := nodupB_ok _ hnd
          obtain ⟨b1, b2⟩ := getAll_ok _ _ hb'
          have hlen : b.length = (List.range bs.length ++ news).length := b1
          obtain ⟨I2, own, hι⟩ := I1.renamed (ids := List.range (List.range bs.length ++ news).length) (h' := mkH (b.map (renB (fore (List.range bs.length ++ news))))) hb' List.nodup_range hn2 (by simp) (f := fore (List.range bs.length ++ news)) (fun o k hk => by
              have := fore_some hk
              exact ⟨k, by rw [List.getElem?_range (List.getElem?_eq_some_iff.1 this).1], this⟩) (fun k B0 hB0 => by
              simp only [mkH, List.getElem?_map] at hB0
              cases hk : b[k]? with
              | none => rw [hk] at hB0; cases hB0
              | some B1 =>
                rw [hk] at hB0; cases hB0
                have hlt := (List.getElem?_eq_some_iff.1 hk).1
                exact ⟨k, B1, by rw [List.getElem?_range (by omega)], hk, rfl⟩) (fun k hk hmem => by
              have hlt : k < (List.range bs.length ++ news).length := by simpa using hmem
              simp only [mkH, List.getElem?_map] at hk
              rw [List.getElem?_eq_getElem (by omega : k < b.length)] at hk
              cases hk)
          refine ⟨q2, v, k1, v, _, imm1, rfl, ⟨fun id v hv => ?_, e1.immS, e1.immR, fun g o => e1.own' g (own g o), e1.keep, e1.size, e1.os, e1.tape, e1.output⟩, I2, ren_rep hι k2⟩
          have hlt := hdom id v hv
          have h3 : (List.range bs.length ++ news)[id]? = some id := by
            rw [List.getElem?_append_left (by simpa using hlt), List.getElem?_range hlt]
          show (backL _ _ id).bind ι1 = some v
          have hl2 := (List.getElem?_eq_some_iff.1 h3).1
          rw [backL_at _ _ id id id List.nodup_range (by rw [List.getElem?_range hl2]) h3]
          exact e1.ids id v hv
        · exact hq.elim
      · exact hq.elim
    cases e with
    | normal => cases hx; exact fin hq
    | ret => cases hx; exact fin hq
    | exit id => cases hx; exact hq.elim
    | _ => cases hx

/-- the environment of what has been shown -/
def envOf (P : Program) (tt : TypeId → Option TInfo) (md : FuncId → Bool) (m : Nat) : Env := ⟨tt, fun g ds r => Good P g (ds.map V.d) [] r [], fun g args bs r bs' => Good P g args bs r bs', md, m⟩
theorem envOf_ok {P : Program} {tt : TypeId → Option TInfo} (ht : TTok P tt) (md : FuncId → Bool) (m : Nat) : EnvOk P (envOf P tt md m) := ⟨ht, fun _ _ _ h => h, fun _ _ _ _ _ h => h⟩

end Go.K
end
section
/-
  PRINTED BY genseat.py (a program of this work): the facts of one seat: its table of types, its functions' and types' numbers. No macro, syntax, notation, axiom, sorry.
-/
open Go
namespace Go.K.S
set_option maxRecDepth 100000

noncomputable abbrev P : Program := Go.Proofs.Try.prog
def tt : TypeId → Option TInfo
  | 2 => some ⟨1, 8, some (.int .i64 (0)), .int .i64⟩
  | 3 => some ⟨1, 8, some (.int .i64 (0)), .int .i64⟩
  | 4 => some ⟨1, 1, some (.bool false), .bool⟩
  | 5 => some ⟨1, 1, some (.int .u8 (0)), .int .u8⟩
  | 9 => some ⟨1, 16, some (.string ⟨#[]⟩), .string⟩
  | 12 => some ⟨1, 8, some (.int .u64 (0)), .int .u64⟩
  | 21 => some ⟨1, 4, some (.int .i32 (0)), .int .i32⟩
  | 22 => some ⟨1, 24, some (.slice none 0 0), .slice 30⟩
  | 23 => some ⟨1, 24, some (.slice none 0 0), .slice 32⟩
  | 26 => some ⟨1, 24, some (.slice none 0 0), .slice 120⟩
  | 27 => some ⟨3, 56, some (.agg #[.bool false, .slice none 0 0, .slice none 0 0]), .struct #[{ name := "Neg", type := 4, offset := 0, embedded := false, tag := "", pkgPath := "", byteOffset := 0 }, { name := "Num", type := 26, offset := 1, embedded := false, tag := "", pkgPath := "", byteOffset := 8 }, { name := "Den", type := 26, offset := 2, embedded := false, tag := "", pkgPath := "", byteOffset := 32 }]⟩
  | 28 => some ⟨3, 56, some (.agg #[.bool false, .slice none 0 0, .slice none 0 0]), .struct #[{ name := "Neg", type := 4, offset := 0, embedded := false, tag := "", pkgPath := "", byteOffset := 0 }, { name := "Num", type := 26, offset := 1, embedded := false, tag := "", pkgPath := "", byteOffset := 8 }, { name := "Den", type := 26, offset := 2, embedded := false, tag := "", pkgPath := "", byteOffset := 32 }]⟩
  | 29 => some ⟨9, 168, some (.agg #[.bool false, .slice none 0 0, .slice none 0 0, .bool false, .slice none 0 0, .slice none 0 0, .bool false, .slice none 0 0, .slice none 0 0]), .struct #[{ name := "X", type := 28, offset := 0, embedded := false, tag := "", pkgPath := "", byteOffset := 0 }, { name := "Y", type := 28, offset := 3, embedded := false, tag := "", pkgPath := "", byteOffset := 56 }, { name := "Z", type := 28, offset := 6, embedded := false, tag := "", pkgPath := "", byteOffset := 112 }]⟩
  | 30 => some ⟨9, 168, some (.agg #[.bool false, .slice none 0 0, .slice none 0 0, .bool false, .slice none 0 0, .slice none 0 0, .bool false, .slice none 0 0, .slice none 0 0]), .struct #[{ name := "X", type := 28, offset := 0, embedded := false, tag := "", pkgPath := "", byteOffset := 0 }, { name := "Y", type := 28, offset := 3, embedded := false, tag := "", pkgPath := "", byteOffset := 56 }, { name := "Z", type := 28, offset := 6, embedded := false, tag := "", pkgPath := "", byteOffset := 112 }]⟩
  | 31 => some ⟨18, 336, some (.agg #[.bool false, .slice none 0 0, .slice none 0 0, .bool false, .slice none 0 0, .slice none 0 0, .bool false, .slice none 0 0, .slice none 0 0, .bool false, .slice none 0 0, .slice none 0 0, .bool false, .slice none 0 0, .slice none 0 0, .bool false, .slice none 0 0, .slice none 0 0]), .struct #[{ name := "Lo", type := 30, offset := 0, embedded := false, tag := "", pkgPath := "", byteOffset := 0 }, { name := "Hi", type := 30, offset := 9, embedded := false, tag := "", pkgPath := "", byteOffset := 168 }]⟩
  | 32 => some ⟨18, 336, some (.agg #[.bool false, .slice none 0 0, .slice none 0 0, .bool false, .slice none 0 0, .slice none 0 0, .bool false, .slice none 0 0, .slice none 0 0, .bool false, .slice none 0 0, .slice none 0 0, .bool false, .slice none 0 0, .slice none 0 0, .bool false, .slice none 0 0, .slice none 0 0]), .struct #[{ name := "Lo", type := 30, offset := 0, embedded := false, tag := "", pkgPath := "", byteOffset := 0 }, { name := "Hi", type := 30, offset := 9, embedded := false, tag := "", pkgPath := "", byteOffset := 168 }]⟩
  | 38 => some ⟨7, 120, some (.agg #[.bool false, .slice none 0 0, .slice none 0 0, .bool false, .slice none 0 0, .slice none 0 0, .bool false]), .struct #[{ name := "From", type := 28, offset := 0, embedded := false, tag := "", pkgPath := "", byteOffset := 0 }, { name := "To", type := 28, offset := 3, embedded := false, tag := "", pkgPath := "", byteOffset := 56 }, { name := "Open", type := 4, offset := 6, embedded := false, tag := "", pkgPath := "", byteOffset := 112 }]⟩
  | 39 => some ⟨7, 120, some (.agg #[.bool false, .slice none 0 0, .slice none 0 0, .bool false, .slice none 0 0, .slice none 0 0, .bool false]), .struct #[{ name := "From", type := 28, offset := 0, embedded := false, tag := "", pkgPath := "", byteOffset := 0 }, { name := "To", type := 28, offset := 3, embedded := false, tag := "", pkgPath := "", byteOffset := 56 }, { name := "Open", type := 4, offset := 6, embedded := false, tag := "", pkgPath := "", byteOffset := 112 }]⟩
  | 47 => some ⟨18, 336, some (.agg #[.bool false, .slice none 0 0, .slice none 0 0, .bool false, .slice none 0 0, .slice none 0 0, .bool false, .slice none 0 0, .slice none 0 0, .bool false, .slice none 0 0, .slice none 0 0, .bool false, .slice none 0 0, .slice none 0 0, .bool false, .slice none 0 0, .slice none 0 0]), .array 2 30⟩
  | 52 => some ⟨27, 504, some (.agg #[.bool false, .slice none 0 0, .slice none 0 0, .bool false, .slice none 0 0, .slice none 0 0, .bool false, .slice none 0 0, .slice none 0 0, .bool false, .slice none 0 0, .slice none 0 0, .bool false, .slice none 0 0, .slice none 0 0, .bool false, .slice none 0 0, .slice none 0 0, .bool false, .slice none 0 0, .slice none 0 0, .bool false, .slice none 0 0, .slice none 0 0, .bool false, .slice none 0 0, .slice none 0 0]), .struct #[{ name := "A", type := 30, offset := 0, embedded := false, tag := "", pkgPath := "", byteOffset := 0 }, { name := "B", type := 30, offset := 9, embedded := false, tag := "", pkgPath := "", byteOffset := 168 }, { name := "C", type := 30, offset := 18, embedded := false, tag := "", pkgPath := "", byteOffset := 336 }]⟩
  | 53 => some ⟨27, 504, some (.agg #[.bool false, .slice none 0 0, .slice none 0 0, .bool false, .slice none 0 0, .slice none 0 0, .bool false, .slice none 0 0, .slice none 0 0, .bool false, .slice none 0 0, .slice none 0 0, .bool false, .slice none 0 0, .slice none 0 0, .bool false, .slice none 0 0, .slice none 0 0, .bool false, .slice none 0 0, .slice none 0 0, .bool false, .slice none 0 0, .slice none 0 0, .bool false, .slice none 0 0, .slice none 0 0]), .struct #[{ name := "A", type := 30, offset := 0, embedded := false, tag := "", pkgPath := "", byteOffset := 0 }, { name := "B", type := 30, offset := 9, embedded := false, tag := "", pkgPath := "", byteOffset := 168 }, { name := "C", type := 30, offset := 18, embedded := false, tag := "", pkgPath := "", byteOffset := 336 }]⟩
  | 54 => some ⟨9, 168, some (.agg #[.bool false, .slice none 0 0, .slice none 0 0, .bool false, .slice none 0 0, .slice none 0 0, .bool false, .slice none 0 0, .slice none 0 0]), .struct #[{ name := "S", type := 28, offset := 0, embedded := false, tag := "", pkgPath := "", byteOffset := 0 }, { name := "U", type := 28, offset := 3, embedded := false, tag := "", pkgPath := "", byteOffset := 56 }, { name := "V", type := 28, offset := 6, embedded := false, tag := "", pkgPath := "", byteOffset := 112 }]⟩
  | 55 => some ⟨9, 168, some (.agg #[.bool false, .slice none 0 0, .slice none 0 0, .bool false, .slice none 0 0, .slice none 0 0, .bool false, .slice none 0 0, .slice none 0 0]), .struct #[{ name := "S", type := 28, offset := 0, embedded := false, tag := "", pkgPath := "", byteOffset := 0 }, { name := "U", type := 28, offset := 3, embedded := false, tag := "", pkgPath := "", byteOffset := 56 }, { name := "V", type := 28, offset := 6, embedded := false, tag := "", pkgPath := "", byteOffset := 112 }]⟩
  | 60 => some ⟨1, 24, some (.slice none 0 0), .slice 53⟩
  | 63 => some ⟨1, 24, some (.slice none 0 0), .slice 108⟩
  | 64 => some ⟨1, 24, some (.slice none 0 0), .slice 3⟩
  | 65 => some ⟨2, 48, some (.agg #[.slice none 0 0, .slice none 0 0]), .struct #[{ name := "Nodes", type := 63, offset := 0, embedded := false, tag := "", pkgPath := "", byteOffset := 0 }, { name := "Order", type := 64, offset := 1, embedded := false, tag := "", pkgPath := "", byteOffset := 24 }]⟩
  | 66 => some ⟨2, 48, some (.agg #[.slice none 0 0, .slice none 0 0]), .struct #[{ name := "Nodes", type := 63, offset := 0, embedded := false, tag := "", pkgPath := "", byteOffset := 0 }, { name := "Order", type := 64, offset := 1, embedded := false, tag := "", pkgPath := "", byteOffset := 24 }]⟩
  | 74 => some ⟨1, 8, some (.int .i64 (0)), .int .i64⟩
  | 86 => some ⟨9, 168, some (.agg #[.bool false, .slice none 0 0, .slice none 0 0, .bool false, .slice none 0 0, .slice none 0 0, .bool false, .slice none 0 0, .slice none 0 0]), .array 3 28⟩
  | 90 => some ⟨1, 24, some (.slice none 0 0), .slice 28⟩
  | 102 => some ⟨1, 8, some (.pointer none), .pointer 105⟩
  | 103 => some ⟨1, 24, some (.slice none 0 0), .slice 4⟩
  | 104 => some ⟨32, 608, some (.agg #[.slice none 0 0, .slice none 0 0, .slice none 0 0, .bool false, .slice none 0 0, .slice none 0 0, .bool false, .slice none 0 0, .slice none 0 0, .bool false, .slice none 0 0, .slice none 0 0, .bool false, .slice none 0 0, .slice none 0 0, .bool false, .slice none 0 0, .slice none 0 0, .bool false, .slice none 0 0, .slice none 0 0, .int .i64 (0), .slice none 0 0, .bool false, .slice none 0 0, .slice none 0 0, .bool false, .slice none 0 0, .slice none 0 0, .bool false, .slice none 0 0, .slice none 0 0]), .struct #[{ name := "Tree", type := 66, offset := 0, embedded := true, tag := "", pkgPath := "", byteOffset := 0 }, { name := "tris", type := 60, offset := 2, embedded := false, tag := "", pkgPath := "penumbra/trace", byteOffset := 48 }, { name := "o", type := 30, offset := 3, embedded := false, tag := "", pkgPath := "penumbra/trace", byteOffset := 72 }, { name := "d", type := 30, offset := 12, embedded := false, tag := "", pkgPath := "penumbra/trace", byteOffset := 240 }, { name := "best", type := 3, offset := 21, embedded := false, tag := "", pkgPath := "penumbra/trace", byteOffset := 408 }, { name := "seen", type := 103, offset := 22, embedded := false, tag := "", pkgPath := "penumbra/trace", byteOffset := 416 }, { name := "Meet", type := 55, offset := 23, embedded := true, tag := "", pkgPath := "", byteOffset := 440 }]⟩
  | 105 => some ⟨32, 608, some (.agg #[.slice none 0 0, .slice none 0 0, .slice none 0 0, .bool false, .slice none 0 0, .slice none 0 0, .bool false, .slice none 0 0, .slice none 0 0, .bool false, .slice none 0 0, .slice none 0 0, .bool false, .slice none 0 0, .slice none 0 0, .bool false, .slice none 0 0, .slice none 0 0, .bool false, .slice none 0 0, .slice none 0 0, .int .i64 (0), .slice none 0 0, .bool false, .slice none 0 0, .slice none 0 0, .bool false, .slice none 0 0, .slice none 0 0, .bool false, .slice none 0 0, .slice none 0 0]), .struct #[{ name := "Tree", type := 66, offset := 0, embedded := true, tag := "", pkgPath := "", byteOffset := 0 }, { name := "tris", type := 60, offset := 2, embedded := false, tag := "", pkgPath := "penumbra/trace", byteOffset := 48 }, { name := "o", type := 30, offset := 3, embedded := false, tag := "", pkgPath := "penumbra/trace", byteOffset := 72 }, { name := "d", type := 30, offset := 12, embedded := false, tag := "", pkgPath := "penumbra/trace", byteOffset := 240 }, { name := "best", type := 3, offset := 21, embedded := false, tag := "", pkgPath := "penumbra/trace", byteOffset := 408 }, { name := "seen", type := 103, offset := 22, embedded := false, tag := "", pkgPath := "penumbra/trace", byteOffset := 416 }, { name := "Meet", type := 55, offset := 23, embedded := true, tag := "", pkgPath := "", byteOffset := 440 }]⟩
  | 107 => some ⟨22, 368, some (.agg #[.bool false, .slice none 0 0, .slice none 0 0, .bool false, .slice none 0 0, .slice none 0 0, .bool false, .slice none 0 0, .slice none 0 0, .bool false, .slice none 0 0, .slice none 0 0, .bool false, .slice none 0 0, .slice none 0 0, .bool false, .slice none 0 0, .slice none 0 0, .int .i64 (0), .int .i64 (0), .int .i64 (0), .int .i64 (0)]), .struct #[{ name := "Box", type := 32, offset := 0, embedded := true, tag := "", pkgPath := "", byteOffset := 0 }, { name := "Left", type := 3, offset := 18, embedded := false, tag := "", pkgPath := "", byteOffset := 336 }, { name := "Right", type := 3, offset := 19, embedded := false, tag := "", pkgPath := "", byteOffset := 344 }, { name := "From", type := 3, offset := 20, embedded := false, tag := "", pkgPath := "", byteOffset := 352 }, { name := "Count", type := 3, offset := 21, embedded := false, tag := "", pkgPath := "", byteOffset := 360 }]⟩
  | 108 => some ⟨22, 368, some (.agg #[.bool false, .slice none 0 0, .slice none 0 0, .bool false, .slice none 0 0, .slice none 0 0, .bool false, .slice none 0 0, .slice none 0 0, .bool false, .slice none 0 0, .slice none 0 0, .bool false, .slice none 0 0, .slice none 0 0, .bool false, .slice none 0 0, .slice none 0 0, .int .i64 (0), .int .i64 (0), .int .i64 (0), .int .i64 (0)]), .struct #[{ name := "Box", type := 32, offset := 0, embedded := true, tag := "", pkgPath := "", byteOffset := 0 }, { name := "Left", type := 3, offset := 18, embedded := false, tag := "", pkgPath := "", byteOffset := 336 }, { name := "Right", type := 3, offset := 19, embedded := false, tag := "", pkgPath := "", byteOffset := 344 }, { name := "From", type := 3, offset := 20, embedded := false, tag := "", pkgPath := "", byteOffset := 352 }, { name := "Count", type := 3, offset := 21, embedded := false, tag := "", pkgPath := "", byteOffset := 360 }]⟩
  | 115 => some ⟨1, 8, some (.pointer none), .pointer 117⟩
  | 116 => some ⟨4, 96, some (.agg #[.slice none 0 0, .slice none 0 0, .slice none 0 0, .slice none 0 0]), .struct #[{ name := "Tree", type := 66, offset := 0, embedded := true, tag := "", pkgPath := "", byteOffset := 0 }, { name := "tris", type := 60, offset := 2, embedded := false, tag := "", pkgPath := "penumbra/bvh", byteOffset := 48 }, { name := "at", type := 22, offset := 3, embedded := false, tag := "", pkgPath := "penumbra/bvh", byteOffset := 72 }]⟩
  | 117 => some ⟨4, 96, some (.agg #[.slice none 0 0, .slice none 0 0, .slice none 0 0, .slice none 0 0]), .struct #[{ name := "Tree", type := 66, offset := 0, embedded := true, tag := "", pkgPath := "", byteOffset := 0 }, { name := "tris", type := 60, offset := 2, embedded := false, tag := "", pkgPath := "penumbra/bvh", byteOffset := 48 }, { name := "at", type := 22, offset := 3, embedded := false, tag := "", pkgPath := "penumbra/bvh", byteOffset := 72 }]⟩
  | 120 => some ⟨1, 4, some (.int .u32 (0)), .int .u32⟩
  | 123 => some ⟨1, 8, some (.int .u64 (0)), .int .u64⟩
  | 124 => some ⟨1, 8, some (.int .u64 (0)), .int .u64⟩
  | 128 => some ⟨2, 16, some (.agg #[.int .i64 (0), .int .i64 (0)]), .array 2 3⟩
  | 155 => some ⟨0, 0, some (.agg #[]), .array 0 16⟩
  | 162 => some ⟨1, 8, some (.pointer none), .pointer 5⟩
  | _ => none

theorem tokOf {T : TypeId} {a b : Nat} {c : Option Value} {u : TypeDesc} (h : (P.info? T).map (fun i => (i.size, i.bytes, i.zero)) = some (a, b, c)) (hu : P.underlying T = some u)
    (hz : ∀ z, c = some z → z.cells.size = a ∧ z.cells.toList.all Value.oneCell' = true) : TOk P T ⟨a, b, c, u⟩ := by
  cases hi : P.info? T with
  | none => rw [hi] at h; cases h
  | some info => rw [hi] at h; cases h; exact ⟨⟨info, hi, rfl, rfl, rfl⟩, hu, hz⟩

theorem tok2 : TOk P 2 ⟨1, 8, some (.int .i64 (0)), .int .i64⟩ := tokOf (by kernel_rfl) (by kernel_rfl) (fun z h => by cases h; exact ⟨rfl, rfl⟩)
theorem tok3 : TOk P 3 ⟨1, 8, some (.int .i64 (0)), .int .i64⟩ := tokOf (by kernel_rfl) (by kernel_rfl) (fun z h => by cases h; exact ⟨rfl, rfl⟩)
theorem tok4 : TOk P 4 ⟨1, 1, some (.bool false), .bool⟩ := tokOf (by kernel_rfl) (by kernel_rfl) (fun z h => by cases h; exact ⟨rfl, rfl⟩)
theorem tok5 : TOk P 5 ⟨1, 1, some (.int .u8 (0)), .int .u8⟩ := tokOf (by kernel_rfl) (by kernel_rfl) (fun z h => by cases h; exact ⟨rfl, rfl⟩)
theorem tok9 : TOk P 9 ⟨1, 16, some (.string ⟨#[]⟩), .string⟩ := tokOf (by kernel_rfl) (by kernel_rfl) (fun z h => by cases h; exact ⟨rfl, rfl⟩)
theorem tok12 : TOk P 12 ⟨1, 8, some (.int .u64 (0)), .int .u64⟩ := tokOf (by kernel_rfl) (by kernel_rfl) (fun z h => by cases h; exact ⟨rfl, rfl⟩)
theorem tok21 : TOk P 21 ⟨1, 4, some (.int .i32 (0)), .int .i32⟩ := tokOf (by kernel_rfl) (by kernel_rfl) (fun z h => by cases h; exact ⟨rfl, rfl⟩)
theorem tok22 : TOk P 22 ⟨1, 24, some (.slice none 0 0), .slice 30⟩ := tokOf (by kernel_rfl) (by kernel_rfl) (fun z h => by cases h; exact ⟨rfl, rfl⟩)
theorem tok23 : TOk P 23 ⟨1, 24, some (.slice none 0 0), .slice 32⟩ := tokOf (by kernel_rfl) (by kernel_rfl) (fun z h => by cases h; exact ⟨rfl, rfl⟩)
theorem tok26 : TOk P 26 ⟨1, 24, some (.slice none 0 0), .slice 120⟩ := tokOf (by kernel_rfl) (by kernel_rfl) (fun z h => by cases h; exact ⟨rfl, rfl⟩)
theorem tok27 : TOk P 27 ⟨3, 56, some (.agg #[.bool false, .slice none 0 0, .slice none 0 0]), .struct #[{ name := "Neg", type := 4, offset := 0, embedded := false, tag := "", pkgPath := "", byteOffset := 0 }, { name := "Num", type := 26, offset := 1, embedded := false, tag := "", pkgPath := "", byteOffset := 8 }, { name := "Den", type := 26, offset := 2, embedded := false, tag := "", pkgPath := "", byteOffset := 32 }]⟩ := tokOf (by kernel_rfl) (by kernel_rfl) (fun z h => by cases h; exact ⟨rfl, rfl⟩)
theorem tok28 : TOk P 28 ⟨3, 56, some (.agg #[.bool false, .slice none 0 0, .slice none 0 0]), .struct #[{ name := "Neg", type := 4, offset := 0, embedded := false, tag := "", pkgPath := "", byteOffset := 0 }, { name := "Num", type := 26, offset := 1, embedded := false, tag := "", pkgPath := "", byteOffset := 8 }, { name := "Den", type := 26, offset := 2, embedded := false, tag := "", pkgPath := "", byteOffset := 32 }]⟩ := tokOf (by kernel_rfl) (by kernel_rfl) (fun z h => by cases h; exact ⟨rfl, rfl⟩)
theorem tok29 : TOk P 29 ⟨9, 168, some (.agg #[.bool false, .slice none 0 0, .slice none 0 0, .bool false, .slice none 0 0, .slice none 0 0, .bool false, .slice none 0 0, .slice none 0 0]), .struct #[{ name := "X", type := 28, offset := 0, embedded := false, tag := "", pkgPath := "", byteOffset := 0 }, { name := "Y", type := 28, offset := 3, embedded := false, tag := "", pkgPath := "", byteOffset := 56 }, { name := "Z", type := 28, offset := 6, embedded := false, tag := "", pkgPath := "", byteOffset := 112 }]⟩ := tokOf (by kernel_rfl) (by kernel_rfl) (fun z h => by cases h; exact ⟨rfl, rfl⟩)
theorem tok30 : TOk P 30 ⟨9, 168, some (.agg #[.bool false, .slice none 0 0, .slice none 0 0, .bool false, .slice none 0 0, .slice none 0 0, .bool false, .slice none 0 0, .slice none 0 0]), .struct #[{ name := "X", type := 28, offset := 0, embedded := false, tag := "", pkgPath := "", byteOffset := 0 }, { name := "Y", type := 28, offset := 3, embedded := false, tag := "", pkgPath := "", byteOffset := 56 }, { name := "Z", type := 28, offset := 6, embedded := false, tag := "", pkgPath := "", byteOffset := 112 }]⟩ := tokOf (by kernel_rfl) (by kernel_rfl) (fun z h => by cases h; exact ⟨rfl, rfl⟩)
theorem tok31 : TOk P 31 ⟨18, 336, some (.agg #[.bool false, .slice none 0 0, .slice none 0 0, .bool false, .slice none 0 0, .slice none 0 0, .bool false, .slice none 0 0, .slice none 0 0, .bool false, .slice none 0 0, .slice none 0 0, .bool false, .slice none 0 0, .slice none 0 0, .bool false, .slice none 0 0, .slice none 0 0]), .struct #[{ name := "Lo", type := 30, offset := 0, embedded := false, tag := "", pkgPath := "", byteOffset := 0 }, { name := "Hi", type := 30, offset := 9, embedded := false, tag := "", pkgPath := "", byteOffset := 168 }]⟩ := tokOf (by kernel_rfl) (by kernel_rfl) (fun z h => by cases h; exact ⟨rfl, rfl⟩)
theorem tok32 : TOk P 32 ⟨18, 336, some (.agg #[.bool false, .slice none 0 0, .slice none 0 0, .bool false, .slice none 0 0, .slice none 0 0, .bool false, .slice none 0 0, .slice none 0 0, .bool false, .slice none 0 0, .slice none 0 0, .bool false, .slice none 0 0, .slice none 0 0, .bool false, .slice none 0 0, .slice none 0 0]), .struct #[{ name := "Lo", type := 30, offset := 0, embedded := false, tag := "", pkgPath := "", byteOffset := 0 }, { name := "Hi", type := 30, offset := 9, embedded := false, tag := "", pkgPath := "", byteOffset := 168 }]⟩ := tokOf (by kernel_rfl) (by kernel_rfl) (fun z h => by cases h; exact ⟨rfl, rfl⟩)
theorem tok38 : TOk P 38 ⟨7, 120, some (.agg #[.bool false, .slice none 0 0, .slice none 0 0, .bool false, .slice none 0 0, .slice none 0 0, .bool false]), .struct #[{ name := "From", type := 28, offset := 0, embedded := false, tag := "", pkgPath := "", byteOffset := 0 }, { name := "To", type := 28, offset := 3, embedded := false, tag := "", pkgPath := "", byteOffset := 56 }, { name := "Open", type := 4, offset := 6, embedded := false, tag := "", pkgPath := "", byteOffset := 112 }]⟩ := tokOf (by kernel_rfl) (by kernel_rfl) (fun z h => by cases h; exact ⟨rfl, rfl⟩)
theorem tok39 : TOk P 39 ⟨7, 120, some (.agg #[.bool false, .slice none 0 0, .slice none 0 0, .bool false, .slice none 0 0, .slice none 0 0, .bool false]), .struct #[{ name := "From", type := 28, offset := 0, embedded := false, tag := "", pkgPath := "", byteOffset := 0 }, { name := "To", type := 28, offset := 3, embedded := false, tag := "", pkgPath := "", byteOffset := 56 }, { name := "Open", type := 4, offset := 6, embedded := false, tag := "", pkgPath := "", byteOffset := 112 }]⟩ := tokOf (by kernel_rfl) (by kernel_rfl) (fun z h => by cases h; exact ⟨rfl, rfl⟩)
theorem tok47 : TOk P 47 ⟨18, 336, some (.agg #[.bool false, .slice none 0 0, .slice none 0 0, .bool false, .slice none 0 0, .slice none 0 0, .bool false, .slice none 0 0, .slice none 0 0, .bool false, .slice none 0 0, .slice none 0 0, .bool false, .slice none 0 0, .slice none 0 0, .bool false, .slice none 0 0, .slice none 0 0]), .array 2 30⟩ := tokOf (by kernel_rfl) (by kernel_rfl) (fun z h => by cases h; exact ⟨rfl, rfl⟩)
theorem tok52 : TOk P 52 ⟨27, 504, some (.agg #[.bool false, .slice none 0 0, .slice none 0 0, .bool false, .slice none 0 0, .slice none 0 0, .bool false, .slice none 0 0, .slice none 0 0, .bool false, .slice none 0 0, .slice none 0 0, .bool false, .slice none 0 0, .slice none 0 0, .bool false, .slice none 0 0, .slice none 0 0, .bool false, .slice none 0 0, .slice none 0 0, .bool false, .slice none 0 0, .slice none 0 0, .bool false, .slice none 0 0, .slice none 0 0]), .struct #[{ name := "A", type := 30, offset := 0, embedded := false, tag := "", pkgPath := "", byteOffset := 0 }, { name := "B", type := 30, offset := 9, embedded := false, tag := "", pkgPath := "", byteOffset := 168 }, { name := "C", type := 30, offset := 18, embedded := false, tag := "", pkgPath := "", byteOffset := 336 }]⟩ := tokOf (by kernel_rfl) (by kernel_rfl) (fun z h => by cases h; exact ⟨rfl, rfl⟩)
theorem tok53 : TOk P 53 ⟨27, 504, some (.agg #[.bool false, .slice none 0 0, .slice none 0 0, .bool false, .slice none 0 0, .slice none 0 0, .bool false, .slice none 0 0, .slice none 0 0, .bool false, .slice none 0 0, .slice none 0 0, .bool false, .slice none 0 0, .slice none 0 0, .bool false, .slice none 0 0, .slice none 0 0, .bool false, .slice none 0 0, .slice none 0 0, .bool false, .slice none 0 0, .slice none 0 0, .bool false, .slice none 0 0, .slice none 0 0]), .struct #[{ name := "A", type := 30, offset := 0, embedded := false, tag := "", pkgPath := "", byteOffset := 0 }, { name := "B", type := 30, offset := 9, embedded := false, tag := "", pkgPath := "", byteOffset := 168 }, { name := "C", type := 30, offset := 18, embedded := false, tag := "", pkgPath := "", byteOffset := 336 }]⟩ := tokOf (by kernel_rfl) (by kernel_rfl) (fun z h => by cases h; exact ⟨rfl, rfl⟩)
theorem tok54 : TOk P 54 ⟨9, 168, some (.agg #[.bool false, .slice none 0 0, .slice none 0 0, .bool false, .slice none 0 0, .slice none 0 0, .bool false, .slice none 0 0, .slice none 0 0]), .struct #[{ name := "S", type := 28, offset := 0, embedded := false, tag := "", pkgPath := "", byteOffset := 0 }, { name := "U", type := 28, offset := 3, embedded := false, tag := "", pkgPath := "", byteOffset := 56 }, { name := "V", type := 28, offset := 6, embedded := false, tag := "", pkgPath := "", byteOffset := 112 }]⟩ := tokOf (by kernel_rfl) (by kernel_rfl) (fun z h => by cases h; exact ⟨rfl, rfl⟩)
theorem tok55 : TOk P 55 ⟨9, 168, some (.agg #[.bool false, .slice none 0 0, .slice none 0 0, .bool false, .slice none 0 0, .slice none 0 0, .bool false, .slice none 0 0, .slice none 0 0]), .struct #[{ name := "S", type := 28, offset := 0, embedded := false, tag := "", pkgPath := "", byteOffset := 0 }, { name := "U", type := 28, offset := 3, embedded := false, tag := "", pkgPath := "", byteOffset := 56 }, { name := "V", type := 28, offset := 6, embedded := false, tag := "", pkgPath := "", byteOffset := 112 }]⟩ := tokOf (by kernel_rfl) (by kernel_rfl) (fun z h => by cases h; exact ⟨rfl, rfl⟩)
theorem tok60 : TOk P 60 ⟨1, 24, some (.slice none 0 0), .slice 53⟩ := tokOf (by kernel_rfl) (by kernel_rfl) (fun z h => by cases h; exact ⟨rfl, rfl⟩)
theorem tok63 : TOk P 63 ⟨1, 24, some (.slice none 0 0), .slice 108⟩ := tokOf (by kernel_rfl) (by kernel_rfl) (fun z h => by cases h; exact ⟨rfl, rfl⟩)
theorem tok64 : TOk P 64 ⟨1, 24, some (.slice none 0 0), .slice 3⟩ := tokOf (by kernel_rfl) (by kernel_rfl) (fun z h => by cases h; exact ⟨rfl, rfl⟩)
theorem tok65 : TOk P 65 ⟨2, 48, some (.agg #[.slice none 0 0, .slice none 0 0]), .struct #[{ name := "Nodes", type := 63, offset := 0, embedded := false, tag := "", pkgPath := "", byteOffset := 0 }, { name := "Order", type := 64, offset := 1, embedded := false, tag := "", pkgPath := "", byteOffset := 24 }]⟩ := tokOf (by kernel_rfl) (by kernel_rfl) (fun z h => by cases h; exact ⟨rfl, rfl⟩)
theorem tok66 : TOk P 66 ⟨2, 48, some (.agg #[.slice none 0 0, .slice none 0 0]), .struct #[{ name := "Nodes", type := 63, offset := 0, embedded := false, tag := "", pkgPath := "", byteOffset := 0 }, { name := "Order", type := 64, offset := 1, embedded := false, tag := "", pkgPath := "", byteOffset := 24 }]⟩ := tokOf (by kernel_rfl) (by kernel_rfl) (fun z h => by cases h; exact ⟨rfl, rfl⟩)
theorem tok74 : TOk P 74 ⟨1, 8, some (.int .i64 (0)), .int .i64⟩ := tokOf (by kernel_rfl) (by kernel_rfl) (fun z h => by cases h; exact ⟨rfl, rfl⟩)
theorem tok86 : TOk P 86 ⟨9, 168, some (.agg #[.bool false, .slice none 0 0, .slice none 0 0, .bool false, .slice none 0 0, .slice none 0 0, .bool false, .slice none 0 0, .slice none 0 0]), .array 3 28⟩ := tokOf (by kernel_rfl) (by kernel_rfl) (fun z h => by cases h; exact ⟨rfl, rfl⟩)
theorem tok90 : TOk P 90 ⟨1, 24, some (.slice none 0 0), .slice 28⟩ := tokOf (by kernel_rfl) (by kernel_rfl) (fun z h => by cases h; exact ⟨rfl, rfl⟩)
theorem tok102 : TOk P 102 ⟨1, 8, some (.pointer none), .pointer 105⟩ := tokOf (by kernel_rfl) (by kernel_rfl) (fun z h => by cases h; exact ⟨rfl, rfl⟩)
theorem tok103 : TOk P 103 ⟨1, 24, some (.slice none 0 0), .slice 4⟩ := tokOf (by kernel_rfl) (by kernel_rfl) (fun z h => by cases h; exact ⟨rfl, rfl⟩)
theorem tok104 : TOk P 104 ⟨32, 608, some (.agg #[.slice none 0 0, .slice none 0 0, .slice none 0 0, .bool false, .slice none 0 0, .slice none 0 0, .bool false, .slice none 0 0, .slice none 0 0, .bool false, .slice none 0 0, .slice none 0 0, .bool false, .slice none 0 0, .slice none 0 0, .bool false, .slice none 0 0, .slice none 0 0, .bool false, .slice none 0 0, .slice none 0 0, .int .i64 (0), .slice none 0 0, .bool false, .slice none 0 0, .slice none 0 0, .bool false, .slice none 0 0, .slice none 0 0, .bool false, .slice none 0 0, .slice none 0 0]), .struct #[{ name := "Tree", type := 66, offset := 0, embedded := true, tag := "", pkgPath := "", byteOffset := 0 }, { name := "tris", type := 60, offset := 2, embedded := false, tag := "", pkgPath := "penumbra/trace", byteOffset := 48 }, { name := "o", type := 30, offset := 3, embedded := false, tag := "", pkgPath := "penumbra/trace", byteOffset := 72 }, { name := "d", type := 30, offset := 12, embedded := false, tag := "", pkgPath := "penumbra/trace", byteOffset := 240 }, { name := "best", type := 3, offset := 21, embedded := false, tag := "", pkgPath := "penumbra/trace", byteOffset := 408 }, { name := "seen", type := 103, offset := 22, embedded := false, tag := "", pkgPath := "penumbra/trace", byteOffset := 416 }, { name := "Meet", type := 55, offset := 23, embedded := true, tag := "", pkgPath := "", byteOffset := 440 }]⟩ := tokOf (by kernel_rfl) (by kernel_rfl) (fun z h => by cases h; exact ⟨rfl, rfl⟩)
theorem tok105 : TOk P 105 ⟨32, 608, some (.agg #[.slice none 0 0, .slice none 0 0, .slice none 0 0, .bool false, .slice none 0 0, .slice none 0 0, .bool false, .slice none 0 0, .slice none 0 0, .bool false, .slice none 0 0, .slice none 0 0, .bool false, .slice none 0 0, .slice none 0 0, .bool false, .slice none 0 0, .slice none 0 0, .bool false, .slice none 0 0, .slice none 0 0, .int .i64 (0), .slice none 0 0, .bool false, .slice none 0 0, .slice none 0 0, .bool false, .slice none 0 0, .slice none 0 0, .bool false, .slice none 0 0, .slice none 0 0]), .struct #[{ name := "Tree", type := 66, offset := 0, embedded := true, tag := "", pkgPath := "", byteOffset := 0 }, { name := "tris", type := 60, offset := 2, embedded := false, tag := "", pkgPath := "penumbra/trace", byteOffset := 48 }, { name := "o", type := 30, offset := 3, embedded := false, tag := "", pkgPath := "penumbra/trace", byteOffset := 72 }, { name := "d", type := 30, offset := 12, embedded := false, tag := "", pkgPath := "penumbra/trace", byteOffset := 240 }, { name := "best", type := 3, offset := 21, embedded := false, tag := "", pkgPath := "penumbra/trace", byteOffset := 408 }, { name := "seen", type := 103, offset := 22, embedded := false, tag := "", pkgPath := "penumbra/trace", byteOffset := 416 }, { name := "Meet", type := 55, offset := 23, embedded := true, tag := "", pkgPath := "", byteOffset := 440 }]⟩ := tokOf (by kernel_rfl) (by kernel_rfl) (fun z h => by cases h; exact ⟨rfl, rfl⟩)
theorem tok107 : TOk P 107 ⟨22, 368, some (.agg #[.bool false, .slice none 0 0, .slice none 0 0, .bool false, .slice none 0 0, .slice none 0 0, .bool false, .slice none 0 0, .slice none 0 0, .bool false, .slice none 0 0, .slice none 0 0, .bool false, .slice none 0 0, .slice none 0 0, .bool false, .slice none 0 0, .slice none 0 0, .int .i64 (0), .int .i64 (0), .int .i64 (0), .int .i64 (0)]), .struct #[{ name := "Box", type := 32, offset := 0, embedded := true, tag := "", pkgPath := "", byteOffset := 0 }, { name := "Left", type := 3, offset := 18, embedded := false, tag := "", pkgPath := "", byteOffset := 336 }, { name := "Right", type := 3, offset := 19, embedded := false, tag := "", pkgPath := "", byteOffset := 344 }, { name := "From", type := 3, offset := 20, embedded := false, tag := "", pkgPath := "", byteOffset := 352 }, { name := "Count", type := 3, offset := 21, embedded := false, tag := "", pkgPath := "", byteOffset := 360 }]⟩ := tokOf (by kernel_rfl) (by kernel_rfl) (fun z h => by cases h; exact ⟨rfl, rfl⟩)
theorem tok108 : TOk P 108 ⟨22, 368, some (.agg #[.bool false, .slice none 0 0, .slice none 0 0, .bool false, .slice none 0 0, .slice none 0 0, .bool false, .slice none 0 0, .slice none 0 0, .bool false, .slice none 0 0, .slice none 0 0, .bool false, .slice none 0 0, .slice none 0 0, .bool false, .slice none 0 0, .slice none 0 0, .int .i64 (0), .int .i64 (0), .int .i64 (0), .int .i64 (0)]), .struct #[{ name := "Box", type := 32, offset := 0, embedded := true, tag := "", pkgPath := "", byteOffset := 0 }, { name := "Left", type := 3, offset := 18, embedded := false, tag := "", pkgPath := "", byteOffset := 336 }, { name := "Right", type := 3, offset := 19, embedded := false, tag := "", pkgPath := "", byteOffset := 344 }, { name := "From", type := 3, offset := 20, embedded := false, tag := "", pkgPath := "", byteOffset := 352 }, { name := "Count", type := 3, offset := 21, embedded := false, tag := "", pkgPath := "", byteOffset := 360 }]⟩ := tokOf (by kernel_rfl) (by kernel_rfl) (fun z h => by cases h; exact ⟨rfl, rfl⟩)
theorem tok115 : TOk P 115 ⟨1, 8, some (.pointer none), .pointer 117⟩ := tokOf (by kernel_rfl) (by kernel_rfl) (fun z h => by cases h; exact ⟨rfl, rfl⟩)
theorem tok116 : TOk P 116 ⟨4, 96, some (.agg #[.slice none 0 0, .slice none 0 0, .slice none 0 0, .slice none 0 0]), .struct #[{ name := "Tree", type := 66, offset := 0, embedded := true, tag := "", pkgPath := "", byteOffset := 0 }, { name := "tris", type := 60, offset := 2, embedded := false, tag := "", pkgPath := "penumbra/bvh", byteOffset := 48 }, { name := "at", type := 22, offset := 3, embedded := false, tag := "", pkgPath := "penumbra/bvh", byteOffset := 72 }]⟩ := tokOf (by kernel_rfl) (by kernel_rfl) (fun z h => by cases h; exact ⟨rfl, rfl⟩)
theorem tok117 : TOk P 117 ⟨4, 96, some (.agg #[.slice none 0 0, .slice none 0 0, .slice none 0 0, .slice none 0 0]), .struct #[{ name := "Tree", type := 66, offset := 0, embedded := true, tag := "", pkgPath := "", byteOffset := 0 }, { name := "tris", type := 60, offset := 2, embedded := false, tag := "", pkgPath := "penumbra/bvh", byteOffset := 48 }, { name := "at", type := 22, offset := 3, embedded := false, tag := "", pkgPath := "penumbra/bvh", byteOffset := 72 }]⟩ := tokOf (by kernel_rfl) (by kernel_rfl) (fun z h => by cases h; exact ⟨rfl, rfl⟩)
theorem tok120 : TOk P 120 ⟨1, 4, some (.int .u32 (0)), .int .u32⟩ := tokOf (by kernel_rfl) (by kernel_rfl) (fun z h => by cases h; exact ⟨rfl, rfl⟩)
theorem tok123 : TOk P 123 ⟨1, 8, some (.int .u64 (0)), .int .u64⟩ := tokOf (by kernel_rfl) (by kernel_rfl) (fun z h => by cases h; exact ⟨rfl, rfl⟩)
theorem tok124 : TOk P 124 ⟨1, 8, some (.int .u64 (0)), .int .u64⟩ := tokOf (by kernel_rfl) (by kernel_rfl) (fun z h => by cases h; exact ⟨rfl, rfl⟩)
theorem tok128 : TOk P 128 ⟨2, 16, some (.agg #[.int .i64 (0), .int .i64 (0)]), .array 2 3⟩ := tokOf (by kernel_rfl) (by kernel_rfl) (fun z h => by cases h; exact ⟨rfl, rfl⟩)
theorem tok155 : TOk P 155 ⟨0, 0, some (.agg #[]), .array 0 16⟩ := tokOf (by kernel_rfl) (by kernel_rfl) (fun z h => by cases h; exact ⟨rfl, rfl⟩)
theorem tok162 : TOk P 162 ⟨1, 8, some (.pointer none), .pointer 5⟩ := tokOf (by kernel_rfl) (by kernel_rfl) (fun z h => by cases h; exact ⟨rfl, rfl⟩)
theorem ttOk : TTok P tt := fun T i h => by
  unfold tt at h
  split at h <;> first | (cases h; done) | skip
  · cases h; exact tok2
  · cases h; exact tok3
  · cases h; exact tok4
  · cases h; exact tok5
  · cases h; exact tok9
  · cases h; exact tok12
  · cases h; exact tok21
  · cases h; exact tok22
  · cases h; exact tok23
  · cases h; exact tok26
  · cases h; exact tok27
  · cases h; exact tok28
  · cases h; exact tok29
  · cases h; exact tok30
  · cases h; exact tok31
  · cases h; exact tok32
  · cases h; exact tok38
  · cases h; exact tok39
  · cases h; exact tok47
  · cases h; exact tok52
  · cases h; exact tok53
  · cases h; exact tok54
  · cases h; exact tok55
  · cases h; exact tok60
  · cases h; exact tok63
  · cases h; exact tok64
  · cases h; exact tok65
  · cases h; exact tok66
  · cases h; exact tok74
  · cases h; exact tok86
  · cases h; exact tok90
  · cases h; exact tok102
  · cases h; exact tok103
  · cases h; exact tok104
  · cases h; exact tok105
  · cases h; exact tok107
  · cases h; exact tok108
  · cases h; exact tok115
  · cases h; exact tok116
  · cases h; exact tok117
  · cases h; exact tok120
  · cases h; exact tok123
  · cases h; exact tok124
  · cases h; exact tok128
  · cases h; exact tok155
  · cases h; exact tok162
theorem mix : P.follows .mixedOrders = true := by kernel_rfl

namespace T
abbrev int64 : TypeId := 2
abbrev int : TypeId := 3
abbrev bool : TypeId := 4
abbrev uint8 : TypeId := 5
abbrev string : TypeId := 9
abbrev uintptr : TypeId := 12
abbrev int32 : TypeId := 21
abbrev L_api_Vec : TypeId := 22
abbrev L_api_Box : TypeId := 23
abbrev L_uint32 : TypeId := 26
abbrev struct_Neg_bool_Num_L_uint32_Den_L_uint32 : TypeId := 27
abbrev api_Rat : TypeId := 28
abbrev struct_X_api_Rat_Y_api_Rat_Z_api_Rat : TypeId := 29
abbrev api_Vec : TypeId := 30
abbrev struct_Lo_api_Vec_Hi_api_Vec : TypeId := 31
abbrev api_Box : TypeId := 32
abbrev struct_From_api_Rat_To_api_Rat_Open_bool : TypeId := 38
abbrev api_Span : TypeId := 39
abbrev A2_api_Vec : TypeId := 47
abbrev struct_A_api_Vec_B_api_Vec_C_api_Vec : TypeId := 52
abbrev api_Tri : TypeId := 53
abbrev struct_S_api_Rat_U_api_Rat_V_api_Rat : TypeId := 54
abbrev api_Meet : TypeId := 55
abbrev L_api_Tri : TypeId := 60
abbrev L_api_Node : TypeId := 63
abbrev L_int : TypeId := 64
abbrev struct_Nodes_L_api_Node_Order_L_int : TypeId := 65
abbrev api_Tree : TypeId := 66
abbrev api_Errno : TypeId := 74
abbrev A3_api_Rat : TypeId := 86
abbrev L_api_Rat : TypeId := 90
abbrev P_trace_walker : TypeId := 102
abbrev L_bool : TypeId := 103
abbrev struct_api_Tree_tris_L_api_Tri_o_api_Vec_d_api_Vec_best_int_seen_L_bool_api_Meet : TypeId := 104
abbrev trace_walker : TypeId := 105
abbrev struct_api_Box_Left_int_Right_int_From_int_Count_int : TypeId := 107
abbrev api_Node : TypeId := 108
abbrev P_bvh_builder : TypeId := 115
abbrev struct_api_Tree_tris_L_api_Tri_at_L_api_Vec : TypeId := 116
abbrev bvh_builder : TypeId := 117
abbrev uint32 : TypeId := 120
abbrev uint64 : TypeId := 123
abbrev uint : TypeId := 124
abbrev A2_int : TypeId := 128
abbrev A0_P_runtime_PanicNilError : TypeId := 155
abbrev P_uint8 : TypeId := 162
end T
namespace F
abbrev main_main : FuncId := 0
abbrev gosem_cut : FuncId := 1
abbrev gosem_cut_init : FuncId := 2
abbrev penumbralaw10_BoxesLay : FuncId := 3
abbrev penumbralaw10_BoxesClip : FuncId := 4
abbrev penumbralaw10_BoxesHold : FuncId := 5
abbrev penumbralaw10_BoxesWithin : FuncId := 6
abbrev penumbralaw10_BoxesMeet : FuncId := 7
abbrev penumbralaw12_TraceMore : FuncId := 8
abbrev penumbralaw12_TraceFirst : FuncId := 9
abbrev penumbralaw12_TraceTrees : FuncId := 10
abbrev penumbralaw10_fixed : FuncId := 11
abbrev penumbraref10_Is : FuncId := 12
abbrev boxes_Around : FuncId := 13
abbrev penumbraref10_Around : FuncId := 14
abbrev boxes_Join : FuncId := 15
abbrev penumbraref10_Join : FuncId := 16
abbrev boxes_Clip : FuncId := 17
abbrev penumbraref10_Clip : FuncId := 18
abbrev penumbraref10_IsSpan : FuncId := 19
abbrev boxes_Holds : FuncId := 20
abbrev penumbraref10_Holds : FuncId := 21
abbrev rat_Same : FuncId := 22
abbrev rat_Sign : FuncId := 23
abbrev rat_Cmp : FuncId := 24
abbrev tri_At : FuncId := 25
abbrev tri_Hit : FuncId := 26
abbrev penumbraref08_At : FuncId := 27
abbrev penumbraref05_Null : FuncId := 28
abbrev penumbralaw12_fixed : FuncId := 29
abbrev trace_Nearest : FuncId := 30
abbrev penumbraref11_Tree : FuncId := 31
abbrev penumbraref08_Is : FuncId := 32
abbrev vec_Scale : FuncId := 33
abbrev rat_Of : FuncId := 34
abbrev penumbraref03_Is : FuncId := 35
abbrev rat_Product : FuncId := 36
abbrev bvh_Build : FuncId := 37
abbrev vec_Sum : FuncId := 38
abbrev trace_Blocked : FuncId := 39
abbrev vec_Of : FuncId := 40
abbrev penumbralaw10_cube : FuncId := 41
abbrev penumbraref03_Of : FuncId := 42
abbrev penumbraref03_One : FuncId := 43
abbrev penumbraref05_Is : FuncId := 44
abbrev boxes_least : FuncId := 45
abbrev boxes_most : FuncId := 46
abbrev penumbraref05_Zero : FuncId := 47
abbrev penumbraref10_join : FuncId := 48
abbrev boxes_axes : FuncId := 49
abbrev rat_Div : FuncId := 50
abbrev rat_Sub : FuncId := 51
abbrev penumbraref03_Zero : FuncId := 52
abbrev penumbraref10_edges : FuncId := 53
abbrev penumbraref10_Min : FuncId := 54
abbrev penumbraref10_Max : FuncId := 55
abbrev penumbraref03_Between : FuncId := 56
abbrev nat_Bits : FuncId := 57
abbrev nat_Cmp : FuncId := 58
abbrev nat_Mul : FuncId := 59
abbrev tri_sides : FuncId := 60
abbrev vec_Cross : FuncId := 61
abbrev vec_Dot : FuncId := 62
abbrev vec_Sub : FuncId := 63
abbrev rat_Sum : FuncId := 64
abbrev penumbraref05_Add : FuncId := 65
abbrev penumbraref05_Scale : FuncId := 66
abbrev penumbraref05_Read : FuncId := 67
abbrev penumbralaw12_unit : FuncId := 68
abbrev P_trace_walker_node : FuncId := 69
abbrev penumbraref11_corners : FuncId := 70
abbrev rat_made : FuncId := 71
abbrev rat_size : FuncId := 72
abbrev penumbraref01_Same : FuncId := 73
abbrev rat_one : FuncId := 74
abbrev rat_times : FuncId := 75
abbrev rat_Read : FuncId := 76
abbrev bvh_around : FuncId := 77
abbrev P_bvh_builder_node : FuncId := 78
abbrev penumbraref03_Read : FuncId := 79
abbrev penumbraref03_abs : FuncId := 80
abbrev rat_plus : FuncId := 81
abbrev penumbraref03_Sign : FuncId := 82
abbrev penumbraref03_Over : FuncId := 83
abbrev penumbraref03_Sub : FuncId := 84
abbrev penumbraref03_Cmp : FuncId := 85
abbrev nat_trim : FuncId := 86
abbrev math_bits_LeadingZeros32 : FuncId := 87
abbrev vec_minor : FuncId := 88
abbrev penumbraref03_Add : FuncId := 89
abbrev penumbraref03_Mul : FuncId := 90
abbrev P_trace_walker_past : FuncId := 91
abbrev P_trace_walker_leaf : FuncId := 92
abbrev nat_Norm : FuncId := 93
abbrev root_Gcd : FuncId := 94
abbrev nat_DivMod : FuncId := 95
abbrev nat_Of : FuncId := 96
abbrev P_bvh_builder_part : FuncId := 97
abbrev P_bvh_builder_widest : FuncId := 98
abbrev penumbraref01_Zero : FuncId := 99
abbrev penumbraref02_Gcd : FuncId := 100
abbrev penumbraref01_DivMod : FuncId := 101
abbrev penumbraref01_Of : FuncId := 102
abbrev rat_whole : FuncId := 103
abbrev nat_Add : FuncId := 104
abbrev nat_Sub : FuncId := 105
abbrev penumbraref03_Div : FuncId := 106
abbrev penumbraref03_Neg : FuncId := 107
abbrev math_bits_Len32 : FuncId := 108
abbrev penumbraref01_Mul : FuncId := 109
abbrev penumbraref01_Add : FuncId := 110
abbrev penumbraref01_Cmp : FuncId := 111
abbrev penumbraref01_Sub : FuncId := 112
abbrev slices_Clone_L_uint32_uint32 : FuncId := 113
abbrev nat_small : FuncId := 114
abbrev nat_long : FuncId := 115
abbrev P_bvh_builder_ahead : FuncId := 116
abbrev bvh_axis : FuncId := 117
abbrev penumbraref01_Norm : FuncId := 118
abbrev penumbraref01_Double : FuncId := 119
abbrev penumbraref01_at : FuncId := 120
abbrev penumbraref01_Half : FuncId := 121
abbrev math_bits_Add32 : FuncId := 122
abbrev math_bits_Sub32 : FuncId := 123
abbrev penumbraref01_limb : FuncId := 124
abbrev math_bits_Div32 : FuncId := 125
abbrev nat_Shl : FuncId := 126
abbrev nat_less : FuncId := 127
abbrev nat_back : FuncId := 128
abbrev nat_shr : FuncId := 129
abbrev runtime_boundsError_Error : FuncId := 130
abbrev runtime_boundsError_RuntimeError : FuncId := 131
abbrev runtime_errorString_Error : FuncId := 132
abbrev runtime_errorString_RuntimeError : FuncId := 133
abbrev runtime_plainError_Error : FuncId := 134
abbrev runtime_plainError_RuntimeError : FuncId := 135
abbrev runtime_errorAddressString_Error : FuncId := 136
abbrev runtime_errorAddressString_RuntimeError : FuncId := 137
abbrev P_runtime_TypeAssertionError_Error : FuncId := 138
abbrev P_runtime_TypeAssertionError_RuntimeError : FuncId := 139
abbrev P_runtime_PanicNilError_Error : FuncId := 140
abbrev P_runtime_PanicNilError_RuntimeError : FuncId := 141
abbrev P_internal_abi_Type_Align : FuncId := 142
abbrev internal_runtime_maps_unhashableTypeError_Error : FuncId := 143
abbrev internal_runtime_maps_unhashableTypeError_RuntimeError : FuncId := 144
abbrev internal_abi_Kind_String : FuncId := 145
end F
namespace B
noncomputable abbrev main_main : Func := Go.Proofs.Try.f0
noncomputable abbrev gosem_cut : Func := Go.Proofs.Try.f1
noncomputable abbrev gosem_cut_init : Func := Go.Proofs.Try.f2
noncomputable abbrev penumbralaw10_BoxesLay : Func := Go.Proofs.Try.f3
noncomputable abbrev penumbralaw10_BoxesClip : Func := Go.Proofs.Try.f4
noncomputable abbrev penumbralaw10_BoxesHold : Func := Go.Proofs.Try.f5
noncomputable abbrev penumbralaw10_BoxesWithin : Func := Go.Proofs.Try.f6
noncomputable abbrev penumbralaw10_BoxesMeet : Func := Go.Proofs.Try.f7
noncomputable abbrev penumbralaw12_TraceMore : Func := Go.Proofs.Try.f8
noncomputable abbrev penumbralaw12_TraceFirst : Func := Go.Proofs.Try.f9
noncomputable abbrev penumbralaw12_TraceTrees : Func := Go.Proofs.Try.f10
noncomputable abbrev penumbralaw10_fixed : Func := Go.Proofs.Try.f11
noncomputable abbrev penumbraref10_Is : Func := Go.Proofs.Try.f12
noncomputable abbrev boxes_Around : Func := Go.Proofs.Try.f13
noncomputable abbrev penumbraref10_Around : Func := Go.Proofs.Try.f14
noncomputable abbrev boxes_Join : Func := Go.Proofs.Try.f15
noncomputable abbrev penumbraref10_Join : Func := Go.Proofs.Try.f16
noncomputable abbrev boxes_Clip : Func := Go.Proofs.Try.f17
noncomputable abbrev penumbraref10_Clip : Func := Go.Proofs.Try.f18
noncomputable abbrev penumbraref10_IsSpan : Func := Go.Proofs.Try.f19
noncomputable abbrev boxes_Holds : Func := Go.Proofs.Try.f20
noncomputable abbrev penumbraref10_Holds : Func := Go.Proofs.Try.f21
noncomputable abbrev rat_Same : Func := Go.Proofs.Try.f22
noncomputable abbrev rat_Sign : Func := Go.Proofs.Try.f23
noncomputable abbrev rat_Cmp : Func := Go.Proofs.Try.f24
noncomputable abbrev tri_At : Func := Go.Proofs.Try.f25
noncomputable abbrev tri_Hit : Func := Go.Proofs.Try.f26
noncomputable abbrev penumbraref08_At : Func := Go.Proofs.Try.f27
noncomputable abbrev penumbraref05_Null : Func := Go.Proofs.Try.f28
noncomputable abbrev penumbralaw12_fixed : Func := Go.Proofs.Try.f29
noncomputable abbrev trace_Nearest : Func := Go.Proofs.Try.f30
noncomputable abbrev penumbraref11_Tree : Func := Go.Proofs.Try.f31
noncomputable abbrev penumbraref08_Is : Func := Go.Proofs.Try.f32
noncomputable abbrev vec_Scale : Func := Go.Proofs.Try.f33
noncomputable abbrev rat_Of : Func := Go.Proofs.Try.f34
noncomputable abbrev penumbraref03_Is : Func := Go.Proofs.Try.f35
noncomputable abbrev rat_Product : Func := Go.Proofs.Try.f36
noncomputable abbrev bvh_Build : Func := Go.Proofs.Try.f37
noncomputable abbrev vec_Sum : Func := Go.Proofs.Try.f38
noncomputable abbrev trace_Blocked : Func := Go.Proofs.Try.f39
noncomputable abbrev vec_Of : Func := Go.Proofs.Try.f40
noncomputable abbrev penumbralaw10_cube : Func := Go.Proofs.Try.f41
noncomputable abbrev penumbraref03_Of : Func := Go.Proofs.Try.f42
noncomputable abbrev penumbraref03_One : Func := Go.Proofs.Try.f43
noncomputable abbrev penumbraref05_Is : Func := Go.Proofs.Try.f44
noncomputable abbrev boxes_least : Func := Go.Proofs.Try.f45
noncomputable abbrev boxes_most : Func := Go.Proofs.Try.f46
noncomputable abbrev penumbraref05_Zero : Func := Go.Proofs.Try.f47
noncomputable abbrev penumbraref10_join : Func := Go.Proofs.Try.f48
noncomputable abbrev boxes_axes : Func := Go.Proofs.Try.f49
noncomputable abbrev rat_Div : Func := Go.Proofs.Try.f50
noncomputable abbrev rat_Sub : Func := Go.Proofs.Try.f51
noncomputable abbrev penumbraref03_Zero : Func := Go.Proofs.Try.f52
noncomputable abbrev penumbraref10_edges : Func := Go.Proofs.Try.f53
noncomputable abbrev penumbraref10_Min : Func := Go.Proofs.Try.f54
noncomputable abbrev penumbraref10_Max : Func := Go.Proofs.Try.f55
noncomputable abbrev penumbraref03_Between : Func := Go.Proofs.Try.f56
noncomputable abbrev nat_Bits : Func := Go.Proofs.Try.f57
noncomputable abbrev nat_Cmp : Func := Go.Proofs.Try.f58
noncomputable abbrev nat_Mul : Func := Go.Proofs.Try.f59
noncomputable abbrev tri_sides : Func := Go.Proofs.Try.f60
noncomputable abbrev vec_Cross : Func := Go.Proofs.Try.f61
noncomputable abbrev vec_Dot : Func := Go.Proofs.Try.f62
noncomputable abbrev vec_Sub : Func := Go.Proofs.Try.f63
noncomputable abbrev rat_Sum : Func := Go.Proofs.Try.f64
noncomputable abbrev penumbraref05_Add : Func := Go.Proofs.Try.f65
noncomputable abbrev penumbraref05_Scale : Func := Go.Proofs.Try.f66
noncomputable abbrev penumbraref05_Read : Func := Go.Proofs.Try.f67
noncomputable abbrev penumbralaw12_unit : Func := Go.Proofs.Try.f68
noncomputable abbrev P_trace_walker_node : Func := Go.Proofs.Try.f69
noncomputable abbrev penumbraref11_corners : Func := Go.Proofs.Try.f70
noncomputable abbrev rat_made : Func := Go.Proofs.Try.f71
noncomputable abbrev rat_size : Func := Go.Proofs.Try.f72
noncomputable abbrev penumbraref01_Same : Func := Go.Proofs.Try.f73
noncomputable abbrev rat_one : Func := Go.Proofs.Try.f74
noncomputable abbrev rat_times : Func := Go.Proofs.Try.f75
noncomputable abbrev rat_Read : Func := Go.Proofs.Try.f76
noncomputable abbrev bvh_around : Func := Go.Proofs.Try.f77
noncomputable abbrev P_bvh_builder_node : Func := Go.Proofs.Try.f78
noncomputable abbrev penumbraref03_Read : Func := Go.Proofs.Try.f79
noncomputable abbrev penumbraref03_abs : Func := Go.Proofs.Try.f80
noncomputable abbrev rat_plus : Func := Go.Proofs.Try.f81
noncomputable abbrev penumbraref03_Sign : Func := Go.Proofs.Try.f82
noncomputable abbrev penumbraref03_Over : Func := Go.Proofs.Try.f83
noncomputable abbrev penumbraref03_Sub : Func := Go.Proofs.Try.f84
noncomputable abbrev penumbraref03_Cmp : Func := Go.Proofs.Try.f85
noncomputable abbrev nat_trim : Func := Go.Proofs.Try.f86
noncomputable abbrev math_bits_LeadingZeros32 : Func := Go.Proofs.Try.f87
noncomputable abbrev vec_minor : Func := Go.Proofs.Try.f88
noncomputable abbrev penumbraref03_Add : Func := Go.Proofs.Try.f89
noncomputable abbrev penumbraref03_Mul : Func := Go.Proofs.Try.f90
noncomputable abbrev P_trace_walker_past : Func := Go.Proofs.Try.f91
noncomputable abbrev P_trace_walker_leaf : Func := Go.Proofs.Try.f92
noncomputable abbrev nat_Norm : Func := Go.Proofs.Try.f93
noncomputable abbrev root_Gcd : Func := Go.Proofs.Try.f94
noncomputable abbrev nat_DivMod : Func := Go.Proofs.Try.f95
noncomputable abbrev nat_Of : Func := Go.Proofs.Try.f96
noncomputable abbrev P_bvh_builder_part : Func := Go.Proofs.Try.f97
noncomputable abbrev P_bvh_builder_widest : Func := Go.Proofs.Try.f98
noncomputable abbrev penumbraref01_Zero : Func := Go.Proofs.Try.f99
noncomputable abbrev penumbraref02_Gcd : Func := Go.Proofs.Try.f100
noncomputable abbrev penumbraref01_DivMod : Func := Go.Proofs.Try.f101
noncomputable abbrev penumbraref01_Of : Func := Go.Proofs.Try.f102
noncomputable abbrev rat_whole : Func := Go.Proofs.Try.f103
noncomputable abbrev nat_Add : Func := Go.Proofs.Try.f104
noncomputable abbrev nat_Sub : Func := Go.Proofs.Try.f105
noncomputable abbrev penumbraref03_Div : Func := Go.Proofs.Try.f106
noncomputable abbrev penumbraref03_Neg : Func := Go.Proofs.Try.f107
noncomputable abbrev math_bits_Len32 : Func := Go.Proofs.Try.f108
noncomputable abbrev penumbraref01_Mul : Func := Go.Proofs.Try.f109
noncomputable abbrev penumbraref01_Add : Func := Go.Proofs.Try.f110
noncomputable abbrev penumbraref01_Cmp : Func := Go.Proofs.Try.f111
noncomputable abbrev penumbraref01_Sub : Func := Go.Proofs.Try.f112
noncomputable abbrev slices_Clone_L_uint32_uint32 : Func := Go.Proofs.Try.f113
noncomputable abbrev nat_small : Func := Go.Proofs.Try.f114
noncomputable abbrev nat_long : Func := Go.Proofs.Try.f115
noncomputable abbrev P_bvh_builder_ahead : Func := Go.Proofs.Try.f116
noncomputable abbrev bvh_axis : Func := Go.Proofs.Try.f117
noncomputable abbrev penumbraref01_Norm : Func := Go.Proofs.Try.f118
noncomputable abbrev penumbraref01_Double : Func := Go.Proofs.Try.f119
noncomputable abbrev penumbraref01_at : Func := Go.Proofs.Try.f120
noncomputable abbrev penumbraref01_Half : Func := Go.Proofs.Try.f121
noncomputable abbrev math_bits_Add32 : Func := Go.Proofs.Try.f122
noncomputable abbrev math_bits_Sub32 : Func := Go.Proofs.Try.f123
noncomputable abbrev penumbraref01_limb : Func := Go.Proofs.Try.f124
noncomputable abbrev math_bits_Div32 : Func := Go.Proofs.Try.f125
noncomputable abbrev nat_Shl : Func := Go.Proofs.Try.f126
noncomputable abbrev nat_less : Func := Go.Proofs.Try.f127
noncomputable abbrev nat_back : Func := Go.Proofs.Try.f128
noncomputable abbrev nat_shr : Func := Go.Proofs.Try.f129
noncomputable abbrev runtime_boundsError_Error : Func := Go.Proofs.Try.f130
noncomputable abbrev runtime_boundsError_RuntimeError : Func := Go.Proofs.Try.f131
noncomputable abbrev runtime_errorString_Error : Func := Go.Proofs.Try.f132
noncomputable abbrev runtime_errorString_RuntimeError : Func := Go.Proofs.Try.f133
noncomputable abbrev runtime_plainError_Error : Func := Go.Proofs.Try.f134
noncomputable abbrev runtime_plainError_RuntimeError : Func := Go.Proofs.Try.f135
noncomputable abbrev runtime_errorAddressString_Error : Func := Go.Proofs.Try.f136
noncomputable abbrev runtime_errorAddressString_RuntimeError : Func := Go.Proofs.Try.f137
noncomputable abbrev P_runtime_TypeAssertionError_Error : Func := Go.Proofs.Try.f138
noncomputable abbrev P_runtime_TypeAssertionError_RuntimeError : Func := Go.Proofs.Try.f139
noncomputable abbrev P_runtime_PanicNilError_Error : Func := Go.Proofs.Try.f140
noncomputable abbrev P_runtime_PanicNilError_RuntimeError : Func := Go.Proofs.Try.f141
noncomputable abbrev P_internal_abi_Type_Align : Func := Go.Proofs.Try.f142
noncomputable abbrev internal_runtime_maps_unhashableTypeError_Error : Func := Go.Proofs.Try.f143
noncomputable abbrev internal_runtime_maps_unhashableTypeError_RuntimeError : Func := Go.Proofs.Try.f144
noncomputable abbrev internal_abi_Kind_String : Func := Go.Proofs.Try.f145
end B

/-- what has been shown may be called -/
def CC (C : FuncId → List D → V → Prop) : Prop := ∀ g ds r, Good P g (ds.map V.d) [] r [] → C g ds r
def CC2 (C2 : FuncId → List V → List Blk → V → List Blk → Prop) : Prop := ∀ g args bs r bs', Good P g args bs r bs' → C2 g args bs r bs'
/-- what is to be shown of a function, its code being right and its number known -/
theorem goodOf {f : FuncId} {fn : Func} (hf : P.funcs[f]? = some fn) (hn : (fn.name == "runtime.NumGoroutine") = false) (hc : (match fn.body with | some c => codeOk fn.ntmps c | none => false) = true)
    (md : FuncId → Bool) {args : List V} {r : V} (ha : args.length ≤ fn.ntmps) (h : ∀ C C2, CC C → CC2 C2 → wpF Ω ⟨tt, C, C2, md, 0⟩ fn args (fun x => x = r)) : Good P f args [] r [] :=
  good_of_wpF (envOf_ok ttOk md 0) mix rfl hf hn hc ha (h _ _ (fun _ _ _ h => h) (fun _ _ _ _ _ h => h))
theorem goodOf2 {f : FuncId} {fn : Func} (hf : P.funcs[f]? = some fn) (hn : (fn.name == "runtime.NumGoroutine") = false) (hc : (match fn.body with | some c => codeOk fn.ntmps c | none => false) = true)
    (md : FuncId → Bool) {args : List V} {bs bs' : List Blk} {r : V} (hb : bs.length ≤ 1000) (ha : args.length ≤ fn.ntmps) (h : ∀ C C2, CC C → CC2 C2 → wpF2 Ω ⟨tt, C, C2, md, bs.length⟩ fn args bs (fun x b => x = r ∧ b = bs')) : Good P f args bs r bs' :=
  good_of_wpF2 (envOf_ok ttOk md bs.length) mix rfl hb hf hn hc ha (h _ _ (fun _ _ _ h => h) (fun _ _ _ _ _ h => h))

/-- functions that are handed blocks -/
def md : FuncId → Bool
  | 69 => true
  | 78 => true
  | 91 => true
  | 92 => true
  | 97 => true
  | 98 => true
  | 116 => true
  | 127 => true
  | 128 => true
  | _ => false
namespace G
theorem penumbralaw10_BoxesLay {args : List V} {r : V} (h : ∀ C C2, CC C → CC2 C2 → wpF Ω ⟨tt, C, C2, md, 0⟩ B.penumbralaw10_BoxesLay args (fun x => x = r)) (ha : args.length ≤ (B.penumbralaw10_BoxesLay).ntmps := by exact of_decide_eq_true rfl) : Good P F.penumbralaw10_BoxesLay args [] r [] := goodOf Go.Proofs.Try.func3 (by kernel_rfl) (by kernel_rfl) md ha h
theorem penumbralaw10_BoxesClip {args : List V} {r : V} (h : ∀ C C2, CC C → CC2 C2 → wpF Ω ⟨tt, C, C2, md, 0⟩ B.penumbralaw10_BoxesClip args (fun x => x = r)) (ha : args.length ≤ (B.penumbralaw10_BoxesClip).ntmps := by exact of_decide_eq_true rfl) : Good P F.penumbralaw10_BoxesClip args [] r [] := goodOf Go.Proofs.Try.func4 (by kernel_rfl) (by kernel_rfl) md ha h
theorem penumbralaw10_BoxesHold {args : List V} {r : V} (h : ∀ C C2, CC C → CC2 C2 → wpF Ω ⟨tt, C, C2, md, 0⟩ B.penumbralaw10_BoxesHold args (fun x => x = r)) (ha : args.length ≤ (B.penumbralaw10_BoxesHold).ntmps := by exact of_decide_eq_true rfl) : Good P F.penumbralaw10_BoxesHold args [] r [] := goodOf Go.Proofs.Try.func5 (by kernel_rfl) (by kernel_rfl) md ha h
theorem penumbralaw10_BoxesWithin {args : List V} {r : V} (h : ∀ C C2, CC C → CC2 C2 → wpF Ω ⟨tt, C, C2, md, 0⟩ B.penumbralaw10_BoxesWithin args (fun x => x = r)) (ha : args.length ≤ (B.penumbralaw10_BoxesWithin).ntmps := by exact of_decide_eq_true rfl) : Good P F.penumbralaw10_BoxesWithin args [] r [] := goodOf Go.Proofs.Try.func6 (by kernel_rfl) (by kernel_rfl) md ha h
theorem penumbralaw10_BoxesMeet {args : List V} {r : V} (h : ∀ C C2, CC C → CC2 C2 → wpF Ω ⟨tt, C, C2, md, 0⟩ B.penumbralaw10_BoxesMeet args (fun x => x = r)) (ha : args.length ≤ (B.penumbralaw10_BoxesMeet).ntmps := by exact of_decide_eq_true rfl) : Good P F.penumbralaw10_BoxesMeet args [] r [] := goodOf Go.Proofs.Try.func7 (by kernel_rfl) (by kernel_rfl) md ha h
theorem penumbralaw12_TraceMore {args : List V} {r : V} (h : ∀ C C2, CC C → CC2 C2 → wpF Ω ⟨tt, C, C2, md, 0⟩ B.penumbralaw12_TraceMore args (fun x => x = r)) (ha : args.length ≤ (B.penumbralaw12_TraceMore).ntmps := by exact of_decide_eq_true rfl) : Good P F.penumbralaw12_TraceMore args [] r [] := goodOf Go.Proofs.Try.func8 (by kernel_rfl) (by kernel_rfl) md ha h
theorem penumbralaw12_TraceFirst {args : List V} {r : V} (h : ∀ C C2, CC C → CC2 C2 → wpF Ω ⟨tt, C, C2, md, 0⟩ B.penumbralaw12_TraceFirst args (fun x => x = r)) (ha : args.length ≤ (B.penumbralaw12_TraceFirst).ntmps := by exact of_decide_eq_true rfl) : Good P F.penumbralaw12_TraceFirst args [] r [] := goodOf Go.Proofs.Try.func9 (by kernel_rfl) (by kernel_rfl) md ha h
theorem penumbralaw12_TraceTrees {args : List V} {r : V} (h : ∀ C C2, CC C → CC2 C2 → wpF Ω ⟨tt, C, C2, md, 0⟩ B.penumbralaw12_TraceTrees args (fun x => x = r)) (ha : args.length ≤ (B.penumbralaw12_TraceTrees).ntmps := by exact of_decide_eq_true rfl) : Good P F.penumbralaw12_TraceTrees args [] r [] := goodOf Go.Proofs.Try.func10 (by kernel_rfl) (by kernel_rfl) md ha h
theorem penumbralaw10_fixed {args : List V} {r : V} (h : ∀ C C2, CC C → CC2 C2 → wpF Ω ⟨tt, C, C2, md, 0⟩ B.penumbralaw10_fixed args (fun x => x = r)) (ha : args.length ≤ (B.penumbralaw10_fixed).ntmps := by exact of_decide_eq_true rfl) : Good P F.penumbralaw10_fixed args [] r [] := goodOf Go.Proofs.Try.func11 (by kernel_rfl) (by kernel_rfl) md ha h
theorem penumbraref10_Is {args : List V} {r : V} (h : ∀ C C2, CC C → CC2 C2 → wpF Ω ⟨tt, C, C2, md, 0⟩ B.penumbraref10_Is args (fun x => x = r)) (ha : args.length ≤ (B.penumbraref10_Is).ntmps := by exact of_decide_eq_true rfl) : Good P F.penumbraref10_Is args [] r [] := goodOf Go.Proofs.Try.func12 (by kernel_rfl) (by kernel_rfl) md ha h
theorem boxes_Around {args : List V} {r : V} (h : ∀ C C2, CC C → CC2 C2 → wpF Ω ⟨tt, C, C2, md, 0⟩ B.boxes_Around args (fun x => x = r)) (ha : args.length ≤ (B.boxes_Around).ntmps := by exact of_decide_eq_true rfl) : Good P F.boxes_Around args [] r [] := goodOf Go.Proofs.Try.func13 (by kernel_rfl) (by kernel_rfl) md ha h
theorem penumbraref10_Around {args : List V} {r : V} (h : ∀ C C2, CC C → CC2 C2 → wpF Ω ⟨tt, C, C2, md, 0⟩ B.penumbraref10_Around args (fun x => x = r)) (ha : args.length ≤ (B.penumbraref10_Around).ntmps := by exact of_decide_eq_true rfl) : Good P F.penumbraref10_Around args [] r [] := goodOf Go.Proofs.Try.func14 (by kernel_rfl) (by kernel_rfl) md ha h
theorem boxes_Join {args : List V} {r : V} (h : ∀ C C2, CC C → CC2 C2 → wpF Ω ⟨tt, C, C2, md, 0⟩ B.boxes_Join args (fun x => x = r)) (ha : args.length ≤ (B.boxes_Join).ntmps := by exact of_decide_eq_true rfl) : Good P F.boxes_Join args [] r [] := goodOf Go.Proofs.Try.func15 (by kernel_rfl) (by kernel_rfl) md ha h
theorem penumbraref10_Join {args : List V} {r : V} (h : ∀ C C2, CC C → CC2 C2 → wpF Ω ⟨tt, C, C2, md, 0⟩ B.penumbraref10_Join args (fun x => x = r)) (ha : args.length ≤ (B.penumbraref10_Join).ntmps := by exact of_decide_eq_true rfl) : Good P F.penumbraref10_Join args [] r [] := goodOf Go.Proofs.Try.func16 (by kernel_rfl) (by kernel_rfl) md ha h
theorem boxes_Clip {args : List V} {r : V} (h : ∀ C C2, CC C → CC2 C2 → wpF Ω ⟨tt, C, C2, md, 0⟩ B.boxes_Clip args (fun x => x = r)) (ha : args.length ≤ (B.boxes_Clip).ntmps := by exact of_decide_eq_true rfl) : Good P F.boxes_Clip args [] r [] := goodOf Go.Proofs.Try.func17 (by kernel_rfl) (by kernel_rfl) md ha h
theorem penumbraref10_Clip {args : List V} {r : V} (h : ∀ C C2, CC C → CC2 C2 → wpF Ω ⟨tt, C, C2, md, 0⟩ B.penumbraref10_Clip args (fun x => x = r)) (ha : args.length ≤ (B.penumbraref10_Clip).ntmps := by exact of_decide_eq_true rfl) : Good P F.penumbraref10_Clip args [] r [] := goodOf Go.Proofs.Try.func18 (by kernel_rfl) (by kernel_rfl) md ha h
theorem penumbraref10_IsSpan {args : List V} {r : V} (h : ∀ C C2, CC C → CC2 C2 → wpF Ω ⟨tt, C, C2, md, 0⟩ B.penumbraref10_IsSpan args (fun x => x = r)) (ha : args.length ≤ (B.penumbraref10_IsSpan).ntmps := by exact of_decide_eq_true rfl) : Good P F.penumbraref10_IsSpan args [] r [] := goodOf Go.Proofs.Try.func19 (by kernel_rfl) (by kernel_rfl) md ha h
theorem boxes_Holds {args : List V} {r : V} (h : ∀ C C2, CC C → CC2 C2 → wpF Ω ⟨tt, C, C2, md, 0⟩ B.boxes_Holds args (fun x => x = r)) (ha : args.length ≤ (B.boxes_Holds).ntmps := by exact of_decide_eq_true rfl) : Good P F.boxes_Holds args [] r [] := goodOf Go.Proofs.Try.func20 (by kernel_rfl) (by kernel_rfl) md ha h
theorem penumbraref10_Holds {args : List V} {r : V} (h : ∀ C C2, CC C → CC2 C2 → wpF Ω ⟨tt, C, C2, md, 0⟩ B.penumbraref10_Holds args (fun x => x = r)) (ha : args.length ≤ (B.penumbraref10_Holds).ntmps := by exact of_decide_eq_true rfl) : Good P F.penumbraref10_Holds args [] r [] := goodOf Go.Proofs.Try.func21 (by kernel_rfl) (by kernel_rfl) md ha h
theorem rat_Same {args : List V} {r : V} (h : ∀ C C2, CC C → CC2 C2 → wpF Ω ⟨tt, C, C2, md, 0⟩ B.rat_Same args (fun x => x = r)) (ha : args.length ≤ (B.rat_Same).ntmps := by exact of_decide_eq_true rfl) : Good P F.rat_Same args [] r [] := goodOf Go.Proofs.Try.func22 (by kernel_rfl) (by kernel_rfl) md ha h
theorem rat_Sign {args : List V} {r : V} (h : ∀ C C2, CC C → CC2 C2 → wpF Ω ⟨tt, C, C2, md, 0⟩ B.rat_Sign args (fun x => x = r)) (ha : args.length ≤ (B.rat_Sign).ntmps := by exact of_decide_eq_true rfl) : Good P F.rat_Sign args [] r [] := goodOf Go.Proofs.Try.func23 (by kernel_rfl) (by kernel_rfl) md ha h
theorem rat_Cmp {args : List V} {r : V} (h : ∀ C C2, CC C → CC2 C2 → wpF Ω ⟨tt, C, C2, md, 0⟩ B.rat_Cmp args (fun x => x = r)) (ha : args.length ≤ (B.rat_Cmp).ntmps := by exact of_decide_eq_true rfl) : Good P F.rat_Cmp args [] r [] := goodOf Go.Proofs.Try.func24 (by kernel_rfl) (by kernel_rfl) md ha h
theorem tri_At {args : List V} {r : V} (h : ∀ C C2, CC C → CC2 C2 → wpF Ω ⟨tt, C, C2, md, 0⟩ B.tri_At args (fun x => x = r)) (ha : args.length ≤ (B.tri_At).ntmps := by exact of_decide_eq_true rfl) : Good P F.tri_At args [] r [] := goodOf Go.Proofs.Try.func25 (by kernel_rfl) (by kernel_rfl) md ha h
theorem tri_Hit {args : List V} {r : V} (h : ∀ C C2, CC C → CC2 C2 → wpF Ω ⟨tt, C, C2, md, 0⟩ B.tri_Hit args (fun x => x = r)) (ha : args.length ≤ (B.tri_Hit).ntmps := by exact of_decide_eq_true rfl) : Good P F.tri_Hit args [] r [] := goodOf Go.Proofs.Try.func26 (by kernel_rfl) (by kernel_rfl) md ha h
theorem penumbraref08_At {args : List V} {r : V} (h : ∀ C C2, CC C → CC2 C2 → wpF Ω ⟨tt, C, C2, md, 0⟩ B.penumbraref08_At args (fun x => x = r)) (ha : args.length ≤ (B.penumbraref08_At).ntmps := by exact of_decide_eq_true rfl) : Good P F.penumbraref08_At args [] r [] := goodOf Go.Proofs.Try.func27 (by kernel_rfl) (by kernel_rfl) md ha h
theorem penumbraref05_Null {args : List V} {r : V} (h : ∀ C C2, CC C → CC2 C2 → wpF Ω ⟨tt, C, C2, md, 0⟩ B.penumbraref05_Null args (fun x => x = r)) (ha : args.length ≤ (B.penumbraref05_Null).ntmps := by exact of_decide_eq_true rfl) : Good P F.penumbraref05_Null args [] r [] := goodOf Go.Proofs.Try.func28 (by kernel_rfl) (by kernel_rfl) md ha h
theorem penumbralaw12_fixed {args : List V} {r : V} (h : ∀ C C2, CC C → CC2 C2 → wpF Ω ⟨tt, C, C2, md, 0⟩ B.penumbralaw12_fixed args (fun x => x = r)) (ha : args.length ≤ (B.penumbralaw12_fixed).ntmps := by exact of_decide_eq_true rfl) : Good P F.penumbralaw12_fixed args [] r [] := goodOf Go.Proofs.Try.func29 (by kernel_rfl) (by kernel_rfl) md ha h
theorem trace_Nearest {args : List V} {r : V} (h : ∀ C C2, CC C → CC2 C2 → wpF Ω ⟨tt, C, C2, md, 0⟩ B.trace_Nearest args (fun x => x = r)) (ha : args.length ≤ (B.trace_Nearest).ntmps := by exact of_decide_eq_true rfl) : Good P F.trace_Nearest args [] r [] := goodOf Go.Proofs.Try.func30 (by kernel_rfl) (by kernel_rfl) md ha h
theorem penumbraref11_Tree {args : List V} {r : V} (h : ∀ C C2, CC C → CC2 C2 → wpF Ω ⟨tt, C, C2, md, 0⟩ B.penumbraref11_Tree args (fun x => x = r)) (ha : args.length ≤ (B.penumbraref11_Tree).ntmps := by exact of_decide_eq_true rfl) : Good P F.penumbraref11_Tree args [] r [] := goodOf Go.Proofs.Try.func31 (by kernel_rfl) (by kernel_rfl) md ha h
theorem penumbraref08_Is {args : List V} {r : V} (h : ∀ C C2, CC C → CC2 C2 → wpF Ω ⟨tt, C, C2, md, 0⟩ B.penumbraref08_Is args (fun x => x = r)) (ha : args.length ≤ (B.penumbraref08_Is).ntmps := by exact of_decide_eq_true rfl) : Good P F.penumbraref08_Is args [] r [] := goodOf Go.Proofs.Try.func32 (by kernel_rfl) (by kernel_rfl) md ha h
theorem vec_Scale {args : List V} {r : V} (h : ∀ C C2, CC C → CC2 C2 → wpF Ω ⟨tt, C, C2, md, 0⟩ B.vec_Scale args (fun x => x = r)) (ha : args.length ≤ (B.vec_Scale).ntmps := by exact of_decide_eq_true rfl) : Good P F.vec_Scale args [] r [] := goodOf Go.Proofs.Try.func33 (by kernel_rfl) (by kernel_rfl) md ha h
theorem rat_Of {args : List V} {r : V} (h : ∀ C C2, CC C → CC2 C2 → wpF Ω ⟨tt, C, C2, md, 0⟩ B.rat_Of args (fun x => x = r)) (ha : args.length ≤ (B.rat_Of).ntmps := by exact of_decide_eq_true rfl) : Good P F.rat_Of args [] r [] := goodOf Go.Proofs.Try.func34 (by kernel_rfl) (by kernel_rfl) md ha h
theorem penumbraref03_Is {args : List V} {r : V} (h : ∀ C C2, CC C → CC2 C2 → wpF Ω ⟨tt, C, C2, md, 0⟩ B.penumbraref03_Is args (fun x => x = r)) (ha : args.length ≤ (B.penumbraref03_Is).ntmps := by exact of_decide_eq_true rfl) : Good P F.penumbraref03_Is args [] r [] := goodOf Go.Proofs.Try.func35 (by kernel_rfl) (by kernel_rfl) md ha h
theorem rat_Product {args : List V} {r : V} (h : ∀ C C2, CC C → CC2 C2 → wpF Ω ⟨tt, C, C2, md, 0⟩ B.rat_Product args (fun x => x = r)) (ha : args.length ≤ (B.rat_Product).ntmps := by exact of_decide_eq_true rfl) : Good P F.rat_Product args [] r [] := goodOf Go.Proofs.Try.func36 (by kernel_rfl) (by kernel_rfl) md ha h
theorem bvh_Build {args : List V} {r : V} (h : ∀ C C2, CC C → CC2 C2 → wpF Ω ⟨tt, C, C2, md, 0⟩ B.bvh_Build args (fun x => x = r)) (ha : args.length ≤ (B.bvh_Build).ntmps := by exact of_decide_eq_true rfl) : Good P F.bvh_Build args [] r [] := goodOf Go.Proofs.Try.func37 (by kernel_rfl) (by kernel_rfl) md ha h
theorem vec_Sum {args : List V} {r : V} (h : ∀ C C2, CC C → CC2 C2 → wpF Ω ⟨tt, C, C2, md, 0⟩ B.vec_Sum args (fun x => x = r)) (ha : args.length ≤ (B.vec_Sum).ntmps := by exact of_decide_eq_true rfl) : Good P F.vec_Sum args [] r [] := goodOf Go.Proofs.Try.func38 (by kernel_rfl) (by kernel_rfl) md ha h
theorem trace_Blocked {args : List V} {r : V} (h : ∀ C C2, CC C → CC2 C2 → wpF Ω ⟨tt, C, C2, md, 0⟩ B.trace_Blocked args (fun x => x = r)) (ha : args.length ≤ (B.trace_Blocked).ntmps := by exact of_decide_eq_true rfl) : Good P F.trace_Blocked args [] r [] := goodOf Go.Proofs.Try.func39 (by kernel_rfl) (by kernel_rfl) md ha h
theorem vec_Of {args : List V} {r : V} (h : ∀ C C2, CC C → CC2 C2 → wpF Ω ⟨tt, C, C2, md, 0⟩ B.vec_Of args (fun x => x = r)) (ha : args.length ≤ (B.vec_Of).ntmps := by exact of_decide_eq_true rfl) : Good P F.vec_Of args [] r [] := goodOf Go.Proofs.Try.func40 (by kernel_rfl) (by kernel_rfl) md ha h
theorem penumbralaw10_cube {args : List V} {r : V} (h : ∀ C C2, CC C → CC2 C2 → wpF Ω ⟨tt, C, C2, md, 0⟩ B.penumbralaw10_cube args (fun x => x = r)) (ha : args.length ≤ (B.penumbralaw10_cube).ntmps := by exact of_decide_eq_true rfl) : Good P F.penumbralaw10_cube args [] r [] := goodOf Go.Proofs.Try.func41 (by kernel_rfl) (by kernel_rfl) md ha h
theorem penumbraref03_Of {args : List V} {r : V} (h : ∀ C C2, CC C → CC2 C2 → wpF Ω ⟨tt, C, C2, md, 0⟩ B.penumbraref03_Of args (fun x => x = r)) (ha : args.length ≤ (B.penumbraref03_Of).ntmps := by exact of_decide_eq_true rfl) : Good P F.penumbraref03_Of args [] r [] := goodOf Go.Proofs.Try.func42 (by kernel_rfl) (by kernel_rfl) md ha h
theorem penumbraref03_One {args : List V} {r : V} (h : ∀ C C2, CC C → CC2 C2 → wpF Ω ⟨tt, C, C2, md, 0⟩ B.penumbraref03_One args (fun x => x = r)) (ha : args.length ≤ (B.penumbraref03_One).ntmps := by exact of_decide_eq_true rfl) : Good P F.penumbraref03_One args [] r [] := goodOf Go.Proofs.Try.func43 (by kernel_rfl) (by kernel_rfl) md ha h
theorem penumbraref05_Is {args : List V} {r : V} (h : ∀ C C2, CC C → CC2 C2 → wpF Ω ⟨tt, C, C2, md, 0⟩ B.penumbraref05_Is args (fun x => x = r)) (ha : args.length ≤ (B.penumbraref05_Is).ntmps := by exact of_decide_eq_true rfl) : Good P F.penumbraref05_Is args [] r [] := goodOf Go.Proofs.Try.func44 (by kernel_rfl) (by kernel_rfl) md ha h
theorem boxes_least {args : List V} {r : V} (h : ∀ C C2, CC C → CC2 C2 → wpF Ω ⟨tt, C, C2, md, 0⟩ B.boxes_least args (fun x => x = r)) (ha : args.length ≤ (B.boxes_least).ntmps := by exact of_decide_eq_true rfl) : Good P F.boxes_least args [] r [] := goodOf Go.Proofs.Try.func45 (by kernel_rfl) (by kernel_rfl) md ha h
theorem boxes_most {args : List V} {r : V} (h : ∀ C C2, CC C → CC2 C2 → wpF Ω ⟨tt, C, C2, md, 0⟩ B.boxes_most args (fun x => x = r)) (ha : args.length ≤ (B.boxes_most).ntmps := by exact of_decide_eq_true rfl) : Good P F.boxes_most args [] r [] := goodOf Go.Proofs.Try.func46 (by kernel_rfl) (by kernel_rfl) md ha h
theorem penumbraref05_Zero {args : List V} {r : V} (h : ∀ C C2, CC C → CC2 C2 → wpF Ω ⟨tt, C, C2, md, 0⟩ B.penumbraref05_Zero args (fun x => x = r)) (ha : args.length ≤ (B.penumbraref05_Zero).ntmps := by exact of_decide_eq_true rfl) : Good P F.penumbraref05_Zero args [] r [] := goodOf Go.Proofs.Try.func47 (by kernel_rfl) (by kernel_rfl) md ha h
theorem penumbraref10_join {args : List V} {r : V} (h : ∀ C C2, CC C → CC2 C2 → wpF Ω ⟨tt, C, C2, md, 0⟩ B.penumbraref10_join args (fun x => x = r)) (ha : args.length ≤ (B.penumbraref10_join).ntmps := by exact of_decide_eq_true rfl) : Good P F.penumbraref10_join args [] r [] := goodOf Go.Proofs.Try.func48 (by kernel_rfl) (by kernel_rfl) md ha h
theorem boxes_axes {args : List V} {r : V} (h : ∀ C C2, CC C → CC2 C2 → wpF Ω ⟨tt, C, C2, md, 0⟩ B.boxes_axes args (fun x => x = r)) (ha : args.length ≤ (B.boxes_axes).ntmps := by exact of_decide_eq_true rfl) : Good P F.boxes_axes args [] r [] := goodOf Go.Proofs.Try.func49 (by kernel_rfl) (by kernel_rfl) md ha h
theorem rat_Div {args : List V} {r : V} (h : ∀ C C2, CC C → CC2 C2 → wpF Ω ⟨tt, C, C2, md, 0⟩ B.rat_Div args (fun x => x = r)) (ha : args.length ≤ (B.rat_Div).ntmps := by exact of_decide_eq_true rfl) : Good P F.rat_Div args [] r [] := goodOf Go.Proofs.Try.func50 (by kernel_rfl) (by kernel_rfl) md ha h
theorem rat_Sub {args : List V} {r : V} (h : ∀ C C2, CC C → CC2 C2 → wpF Ω ⟨tt, C, C2, md, 0⟩ B.rat_Sub args (fun x => x = r)) (ha : args.length ≤ (B.rat_Sub).ntmps := by exact of_decide_eq_true rfl) : Good P F.rat_Sub args [] r [] := goodOf Go.Proofs.Try.func51 (by kernel_rfl) (by kernel_rfl) md ha h
theorem penumbraref03_Zero {args : List V} {r : V} (h : ∀ C C2, CC C → CC2 C2 → wpF Ω ⟨tt, C, C2, md, 0⟩ B.penumbraref03_Zero args (fun x => x = r)) (ha : args.length ≤ (B.penumbraref03_Zero).ntmps := by exact of_decide_eq_true rfl) : Good P F.penumbraref03_Zero args [] r [] := goodOf Go.Proofs.Try.func52 (by kernel_rfl) (by kernel_rfl) md ha h
theorem penumbraref10_edges {args : List V} {r : V} (h : ∀ C C2, CC C → CC2 C2 → wpF Ω ⟨tt, C, C2, md, 0⟩ B.penumbraref10_edges args (fun x => x = r)) (ha : args.length ≤ (B.penumbraref10_edges).ntmps := by exact of_decide_eq_true rfl) : Good P F.penumbraref10_edges args [] r [] := goodOf Go.Proofs.Try.func53 (by kernel_rfl) (by kernel_rfl) md ha h
theorem penumbraref10_Min {args : List V} {r : V} (h : ∀ C C2, CC C → CC2 C2 → wpF Ω ⟨tt, C, C2, md, 0⟩ B.penumbraref10_Min args (fun x => x = r)) (ha : args.length ≤ (B.penumbraref10_Min).ntmps := by exact of_decide_eq_true rfl) : Good P F.penumbraref10_Min args [] r [] := goodOf Go.Proofs.Try.func54 (by kernel_rfl) (by kernel_rfl) md ha h
theorem penumbraref10_Max {args : List V} {r : V} (h : ∀ C C2, CC C → CC2 C2 → wpF Ω ⟨tt, C, C2, md, 0⟩ B.penumbraref10_Max args (fun x => x = r)) (ha : args.length ≤ (B.penumbraref10_Max).ntmps := by exact of_decide_eq_true rfl) : Good P F.penumbraref10_Max args [] r [] := goodOf Go.Proofs.Try.func55 (by kernel_rfl) (by kernel_rfl) md ha h
theorem penumbraref03_Between {args : List V} {r : V} (h : ∀ C C2, CC C → CC2 C2 → wpF Ω ⟨tt, C, C2, md, 0⟩ B.penumbraref03_Between args (fun x => x = r)) (ha : args.length ≤ (B.penumbraref03_Between).ntmps := by exact of_decide_eq_true rfl) : Good P F.penumbraref03_Between args [] r [] := goodOf Go.Proofs.Try.func56 (by kernel_rfl) (by kernel_rfl) md ha h
theorem nat_Bits {args : List V} {r : V} (h : ∀ C C2, CC C → CC2 C2 → wpF Ω ⟨tt, C, C2, md, 0⟩ B.nat_Bits args (fun x => x = r)) (ha : args.length ≤ (B.nat_Bits).ntmps := by exact of_decide_eq_true rfl) : Good P F.nat_Bits args [] r [] := goodOf Go.Proofs.Try.func57 (by kernel_rfl) (by kernel_rfl) md ha h
theorem nat_Cmp {args : List V} {r : V} (h : ∀ C C2, CC C → CC2 C2 → wpF Ω ⟨tt, C, C2, md, 0⟩ B.nat_Cmp args (fun x => x = r)) (ha : args.length ≤ (B.nat_Cmp).ntmps := by exact of_decide_eq_true rfl) : Good P F.nat_Cmp args [] r [] := goodOf Go.Proofs.Try.func58 (by kernel_rfl) (by kernel_rfl) md ha h
theorem nat_Mul {args : List V} {r : V} (h : ∀ C C2, CC C → CC2 C2 → wpF Ω ⟨tt, C, C2, md, 0⟩ B.nat_Mul args (fun x => x = r)) (ha : args.length ≤ (B.nat_Mul).ntmps := by exact of_decide_eq_true rfl) : Good P F.nat_Mul args [] r [] := goodOf Go.Proofs.Try.func59 (by kernel_rfl) (by kernel_rfl) md ha h
theorem tri_sides {args : List V} {r : V} (h : ∀ C C2, CC C → CC2 C2 → wpF Ω ⟨tt, C, C2, md, 0⟩ B.tri_sides args (fun x => x = r)) (ha : args.length ≤ (B.tri_sides).ntmps := by exact of_decide_eq_true rfl) : Good P F.tri_sides args [] r [] := goodOf Go.Proofs.Try.func60 (by kernel_rfl) (by kernel_rfl) md ha h
theorem vec_Cross {args : List V} {r : V} (h : ∀ C C2, CC C → CC2 C2 → wpF Ω ⟨tt, C, C2, md, 0⟩ B.vec_Cross args (fun x => x = r)) (ha : args.length ≤ (B.vec_Cross).ntmps := by exact of_decide_eq_true rfl) : Good P F.vec_Cross args [] r [] := goodOf Go.Proofs.Try.func61 (by kernel_rfl) (by kernel_rfl) md ha h
theorem vec_Dot {args : List V} {r : V} (h : ∀ C C2, CC C → CC2 C2 → wpF Ω ⟨tt, C, C2, md, 0⟩ B.vec_Dot args (fun x => x = r)) (ha : args.length ≤ (B.vec_Dot).ntmps := by exact of_decide_eq_true rfl) : Good P F.vec_Dot args [] r [] := goodOf Go.Proofs.Try.func62 (by kernel_rfl) (by kernel_rfl) md ha h
theorem vec_Sub {args : List V} {r : V} (h : ∀ C C2, CC C → CC2 C2 → wpF Ω ⟨tt, C, C2, md, 0⟩ B.vec_Sub args (fun x => x = r)) (ha : args.length ≤ (B.vec_Sub).ntmps := by exact of_decide_eq_true rfl) : Good P F.vec_Sub args [] r [] := goodOf Go.Proofs.Try.func63 (by kernel_rfl) (by kernel_rfl) md ha h
theorem rat_Sum {args : List V} {r : V} (h : ∀ C C2, CC C → CC2 C2 → wpF Ω ⟨tt, C, C2, md, 0⟩ B.rat_Sum args (fun x => x = r)) (ha : args.length ≤ (B.rat_Sum).ntmps := by exact of_decide_eq_true rfl) : Good P F.rat_Sum args [] r [] := goodOf Go.Proofs.Try.func64 (by kernel_rfl) (by kernel_rfl) md ha h
theorem penumbraref05_Add {args : List V} {r : V} (h : ∀ C C2, CC C → CC2 C2 → wpF Ω ⟨tt, C, C2, md, 0⟩ B.penumbraref05_Add args (fun x => x = r)) (ha : args.length ≤ (B.penumbraref05_Add).ntmps := by exact of_decide_eq_true rfl) : Good P F.penumbraref05_Add args [] r [] := goodOf Go.Proofs.Try.func65 (by kernel_rfl) (by kernel_rfl) md ha h
theorem penumbraref05_Scale {args : List V} {r : V} (h : ∀ C C2, CC C → CC2 C2 → wpF Ω ⟨tt, C, C2, md, 0⟩ B.penumbraref05_Scale args (fun x => x = r)) (ha : args.length ≤ (B.penumbraref05_Scale).ntmps := by exact of_decide_eq_true rfl) : Good P F.penumbraref05_Scale args [] r [] := goodOf Go.Proofs.Try.func66 (by kernel_rfl) (by kernel_rfl) md ha h
theorem penumbraref05_Read {args : List V} {r : V} (h : ∀ C C2, CC C → CC2 C2 → wpF Ω ⟨tt, C, C2, md, 0⟩ B.penumbraref05_Read args (fun x => x = r)) (ha : args.length ≤ (B.penumbraref05_Read).ntmps := by exact of_decide_eq_true rfl) : Good P F.penumbraref05_Read args [] r [] := goodOf Go.Proofs.Try.func67 (by kernel_rfl) (by kernel_rfl) md ha h
theorem penumbralaw12_unit {args : List V} {r : V} (h : ∀ C C2, CC C → CC2 C2 → wpF Ω ⟨tt, C, C2, md, 0⟩ B.penumbralaw12_unit args (fun x => x = r)) (ha : args.length ≤ (B.penumbralaw12_unit).ntmps := by exact of_decide_eq_true rfl) : Good P F.penumbralaw12_unit args [] r [] := goodOf Go.Proofs.Try.func68 (by kernel_rfl) (by kernel_rfl) md ha h
theorem P_trace_walker_node {args : List V} {bs bs' : List Blk} {r : V} (h : ∀ C C2, CC C → CC2 C2 → wpF2 Ω ⟨tt, C, C2, md, bs.length⟩ B.P_trace_walker_node args bs (fun x b => x = r ∧ b = bs')) (hb : bs.length ≤ 1000 := by decide) (ha : args.length ≤ (B.P_trace_walker_node).ntmps := by exact of_decide_eq_true rfl) : Good P F.P_trace_walker_node args bs r bs' := goodOf2 Go.Proofs.Try.func69 (by kernel_rfl) (by kernel_rfl) md hb ha h
theorem penumbraref11_corners {args : List V} {r : V} (h : ∀ C C2, CC C → CC2 C2 → wpF Ω ⟨tt, C, C2, md, 0⟩ B.penumbraref11_corners args (fun x => x = r)) (ha : args.length ≤ (B.penumbraref11_corners).ntmps := by exact of_decide_eq_true rfl) : Good P F.penumbraref11_corners args [] r [] := goodOf Go.Proofs.Try.func70 (by kernel_rfl) (by kernel_rfl) md ha h
theorem rat_made {args : List V} {r : V} (h : ∀ C C2, CC C → CC2 C2 → wpF Ω ⟨tt, C, C2, md, 0⟩ B.rat_made args (fun x => x = r)) (ha : args.length ≤ (B.rat_made).ntmps := by exact of_decide_eq_true rfl) : Good P F.rat_made args [] r [] := goodOf Go.Proofs.Try.func71 (by kernel_rfl) (by kernel_rfl) md ha h
theorem rat_size {args : List V} {r : V} (h : ∀ C C2, CC C → CC2 C2 → wpF Ω ⟨tt, C, C2, md, 0⟩ B.rat_size args (fun x => x = r)) (ha : args.length ≤ (B.rat_size).ntmps := by exact of_decide_eq_true rfl) : Good P F.rat_size args [] r [] := goodOf Go.Proofs.Try.func72 (by kernel_rfl) (by kernel_rfl) md ha h
theorem penumbraref01_Same {args : List V} {r : V} (h : ∀ C C2, CC C → CC2 C2 → wpF Ω ⟨tt, C, C2, md, 0⟩ B.penumbraref01_Same args (fun x => x = r)) (ha : args.length ≤ (B.penumbraref01_Same).ntmps := by exact of_decide_eq_true rfl) : Good P F.penumbraref01_Same args [] r [] := goodOf Go.Proofs.Try.func73 (by kernel_rfl) (by kernel_rfl) md ha h
theorem rat_one {args : List V} {r : V} (h : ∀ C C2, CC C → CC2 C2 → wpF Ω ⟨tt, C, C2, md, 0⟩ B.rat_one args (fun x => x = r)) (ha : args.length ≤ (B.rat_one).ntmps := by exact of_decide_eq_true rfl) : Good P F.rat_one args [] r [] := goodOf Go.Proofs.Try.func74 (by kernel_rfl) (by kernel_rfl) md ha h
theorem rat_times {args : List V} {r : V} (h : ∀ C C2, CC C → CC2 C2 → wpF Ω ⟨tt, C, C2, md, 0⟩ B.rat_times args (fun x => x = r)) (ha : args.length ≤ (B.rat_times).ntmps := by exact of_decide_eq_true rfl) : Good P F.rat_times args [] r [] := goodOf Go.Proofs.Try.func75 (by kernel_rfl) (by kernel_rfl) md ha h
theorem rat_Read {args : List V} {r : V} (h : ∀ C C2, CC C → CC2 C2 → wpF Ω ⟨tt, C, C2, md, 0⟩ B.rat_Read args (fun x => x = r)) (ha : args.length ≤ (B.rat_Read).ntmps := by exact of_decide_eq_true rfl) : Good P F.rat_Read args [] r [] := goodOf Go.Proofs.Try.func76 (by kernel_rfl) (by kernel_rfl) md ha h
theorem bvh_around {args : List V} {r : V} (h : ∀ C C2, CC C → CC2 C2 → wpF Ω ⟨tt, C, C2, md, 0⟩ B.bvh_around args (fun x => x = r)) (ha : args.length ≤ (B.bvh_around).ntmps := by exact of_decide_eq_true rfl) : Good P F.bvh_around args [] r [] := goodOf Go.Proofs.Try.func77 (by kernel_rfl) (by kernel_rfl) md ha h
theorem P_bvh_builder_node {args : List V} {bs bs' : List Blk} {r : V} (h : ∀ C C2, CC C → CC2 C2 → wpF2 Ω ⟨tt, C, C2, md, bs.length⟩ B.P_bvh_builder_node args bs (fun x b => x = r ∧ b = bs')) (hb : bs.length ≤ 1000 := by decide) (ha : args.length ≤ (B.P_bvh_builder_node).ntmps := by exact of_decide_eq_true rfl) : Good P F.P_bvh_builder_node args bs r bs' := goodOf2 Go.Proofs.Try.func78 (by kernel_rfl) (by kernel_rfl) md hb ha h
theorem penumbraref03_Read {args : List V} {r : V} (h : ∀ C C2, CC C → CC2 C2 → wpF Ω ⟨tt, C, C2, md, 0⟩ B.penumbraref03_Read args (fun x => x = r)) (ha : args.length ≤ (B.penumbraref03_Read).ntmps := by exact of_decide_eq_true rfl) : Good P F.penumbraref03_Read args [] r [] := goodOf Go.Proofs.Try.func79 (by kernel_rfl) (by kernel_rfl) md ha h
theorem penumbraref03_abs {args : List V} {r : V} (h : ∀ C C2, CC C → CC2 C2 → wpF Ω ⟨tt, C, C2, md, 0⟩ B.penumbraref03_abs args (fun x => x = r)) (ha : args.length ≤ (B.penumbraref03_abs).ntmps := by exact of_decide_eq_true rfl) : Good P F.penumbraref03_abs args [] r [] := goodOf Go.Proofs.Try.func80 (by kernel_rfl) (by kernel_rfl) md ha h
theorem rat_plus {args : List V} {r : V} (h : ∀ C C2, CC C → CC2 C2 → wpF Ω ⟨tt, C, C2, md, 0⟩ B.rat_plus args (fun x => x = r)) (ha : args.length ≤ (B.rat_plus).ntmps := by exact of_decide_eq_true rfl) : Good P F.rat_plus args [] r [] := goodOf Go.Proofs.Try.func81 (by kernel_rfl) (by kernel_rfl) md ha h
theorem penumbraref03_Sign {args : List V} {r : V} (h : ∀ C C2, CC C → CC2 C2 → wpF Ω ⟨tt, C, C2, md, 0⟩ B.penumbraref03_Sign args (fun x => x = r)) (ha : args.length ≤ (B.penumbraref03_Sign).ntmps := by exact of_decide_eq_true rfl) : Good P F.penumbraref03_Sign args [] r [] := goodOf Go.Proofs.Try.func82 (by kernel_rfl) (by kernel_rfl) md ha h
theorem penumbraref03_Over {args : List V} {r : V} (h : ∀ C C2, CC C → CC2 C2 → wpF Ω ⟨tt, C, C2, md, 0⟩ B.penumbraref03_Over args (fun x => x = r)) (ha : args.length ≤ (B.penumbraref03_Over).ntmps := by exact of_decide_eq_true rfl) : Good P F.penumbraref03_Over args [] r [] := goodOf Go.Proofs.Try.func83 (by kernel_rfl) (by kernel_rfl) md ha h
theorem penumbraref03_Sub {args : List V} {r : V} (h : ∀ C C2, CC C → CC2 C2 → wpF Ω ⟨tt, C, C2, md, 0⟩ B.penumbraref03_Sub args (fun x => x = r)) (ha : args.length ≤ (B.penumbraref03_Sub).ntmps := by exact of_decide_eq_true rfl) : Good P F.penumbraref03_Sub args [] r [] := goodOf Go.Proofs.Try.func84 (by kernel_rfl) (by kernel_rfl) md ha h
theorem penumbraref03_Cmp {args : List V} {r : V} (h : ∀ C C2, CC C → CC2 C2 → wpF Ω ⟨tt, C, C2, md, 0⟩ B.penumbraref03_Cmp args (fun x => x = r)) (ha : args.length ≤ (B.penumbraref03_Cmp).ntmps := by exact of_decide_eq_true rfl) : Good P F.penumbraref03_Cmp args [] r [] := goodOf Go.Proofs.Try.func85 (by kernel_rfl) (by kernel_rfl) md ha h
theorem nat_trim {args : List V} {r : V} (h : ∀ C C2, CC C → CC2 C2 → wpF Ω ⟨tt, C, C2, md, 0⟩ B.nat_trim args (fun x => x = r)) (ha : args.length ≤ (B.nat_trim).ntmps := by exact of_decide_eq_true rfl) : Good P F.nat_trim args [] r [] := goodOf Go.Proofs.Try.func86 (by kernel_rfl) (by kernel_rfl) md ha h
theorem math_bits_LeadingZeros32 {args : List V} {r : V} (h : ∀ C C2, CC C → CC2 C2 → wpF Ω ⟨tt, C, C2, md, 0⟩ B.math_bits_LeadingZeros32 args (fun x => x = r)) (ha : args.length ≤ (B.math_bits_LeadingZeros32).ntmps := by exact of_decide_eq_true rfl) : Good P F.math_bits_LeadingZeros32 args [] r [] := goodOf Go.Proofs.Try.func87 (by kernel_rfl) (by kernel_rfl) md ha h
theorem vec_minor {args : List V} {r : V} (h : ∀ C C2, CC C → CC2 C2 → wpF Ω ⟨tt, C, C2, md, 0⟩ B.vec_minor args (fun x => x = r)) (ha : args.length ≤ (B.vec_minor).ntmps := by exact of_decide_eq_true rfl) : Good P F.vec_minor args [] r [] := goodOf Go.Proofs.Try.func88 (by kernel_rfl) (by kernel_rfl) md ha h
theorem penumbraref03_Add {args : List V} {r : V} (h : ∀ C C2, CC C → CC2 C2 → wpF Ω ⟨tt, C, C2, md, 0⟩ B.penumbraref03_Add args (fun x => x = r)) (ha : args.length ≤ (B.penumbraref03_Add).ntmps := by exact of_decide_eq_true rfl) : Good P F.penumbraref03_Add args [] r [] := goodOf Go.Proofs.Try.func89 (by kernel_rfl) (by kernel_rfl) md ha h
theorem penumbraref03_Mul {args : List V} {r : V} (h : ∀ C C2, CC C → CC2 C2 → wpF Ω ⟨tt, C, C2, md, 0⟩ B.penumbraref03_Mul args (fun x => x = r)) (ha : args.length ≤ (B.penumbraref03_Mul).ntmps := by exact of_decide_eq_true rfl) : Good P F.penumbraref03_Mul args [] r [] := goodOf Go.Proofs.Try.func90 (by kernel_rfl) (by kernel_rfl) md ha h
theorem P_trace_walker_past {args : List V} {bs bs' : List Blk} {r : V} (h : ∀ C C2, CC C → CC2 C2 → wpF2 Ω ⟨tt, C, C2, md, bs.length⟩ B.P_trace_walker_past args bs (fun x b => x = r ∧ b = bs')) (hb : bs.length ≤ 1000 := by decide) (ha : args.length ≤ (B.P_trace_walker_past).ntmps := by exact of_decide_eq_true rfl) : Good P F.P_trace_walker_past args bs r bs' := goodOf2 Go.Proofs.Try.func91 (by kernel_rfl) (by kernel_rfl) md hb ha h
theorem P_trace_walker_leaf {args : List V} {bs bs' : List Blk} {r : V} (h : ∀ C C2, CC C → CC2 C2 → wpF2 Ω ⟨tt, C, C2, md, bs.length⟩ B.P_trace_walker_leaf args bs (fun x b => x = r ∧ b = bs')) (hb : bs.length ≤ 1000 := by decide) (ha : args.length ≤ (B.P_trace_walker_leaf).ntmps := by exact of_decide_eq_true rfl) : Good P F.P_trace_walker_leaf args bs r bs' := goodOf2 Go.Proofs.Try.func92 (by kernel_rfl) (by kernel_rfl) md hb ha h
theorem nat_Norm {args : List V} {r : V} (h : ∀ C C2, CC C → CC2 C2 → wpF Ω ⟨tt, C, C2, md, 0⟩ B.nat_Norm args (fun x => x = r)) (ha : args.length ≤ (B.nat_Norm).ntmps := by exact of_decide_eq_true rfl) : Good P F.nat_Norm args [] r [] := goodOf Go.Proofs.Try.func93 (by kernel_rfl) (by kernel_rfl) md ha h
theorem root_Gcd {args : List V} {r : V} (h : ∀ C C2, CC C → CC2 C2 → wpF Ω ⟨tt, C, C2, md, 0⟩ B.root_Gcd args (fun x => x = r)) (ha : args.length ≤ (B.root_Gcd).ntmps := by exact of_decide_eq_true rfl) : Good P F.root_Gcd args [] r [] := goodOf Go.Proofs.Try.func94 (by kernel_rfl) (by kernel_rfl) md ha h
theorem nat_DivMod {args : List V} {r : V} (h : ∀ C C2, CC C → CC2 C2 → wpF Ω ⟨tt, C, C2, md, 0⟩ B.nat_DivMod args (fun x => x = r)) (ha : args.length ≤ (B.nat_DivMod).ntmps := by exact of_decide_eq_true rfl) : Good P F.nat_DivMod args [] r [] := goodOf Go.Proofs.Try.func95 (by kernel_rfl) (by kernel_rfl) md ha h
theorem nat_Of {args : List V} {r : V} (h : ∀ C C2, CC C → CC2 C2 → wpF Ω ⟨tt, C, C2, md, 0⟩ B.nat_Of args (fun x => x = r)) (ha : args.length ≤ (B.nat_Of).ntmps := by exact of_decide_eq_true rfl) : Good P F.nat_Of args [] r [] := goodOf Go.Proofs.Try.func96 (by kernel_rfl) (by kernel_rfl) md ha h
theorem P_bvh_builder_part {args : List V} {bs bs' : List Blk} {r : V} (h : ∀ C C2, CC C → CC2 C2 → wpF2 Ω ⟨tt, C, C2, md, bs.length⟩ B.P_bvh_builder_part args bs (fun x b => x = r ∧ b = bs')) (hb : bs.length ≤ 1000 := by decide) (ha : args.length ≤ (B.P_bvh_builder_part).ntmps := by exact of_decide_eq_true rfl) : Good P F.P_bvh_builder_part args bs r bs' := goodOf2 Go.Proofs.Try.func97 (by kernel_rfl) (by kernel_rfl) md hb ha h
theorem P_bvh_builder_widest {args : List V} {bs bs' : List Blk} {r : V} (h : ∀ C C2, CC C → CC2 C2 → wpF2 Ω ⟨tt, C, C2, md, bs.length⟩ B.P_bvh_builder_widest args bs (fun x b => x = r ∧ b = bs')) (hb : bs.length ≤ 1000 := by decide) (ha : args.length ≤ (B.P_bvh_builder_widest).ntmps := by exact of_decide_eq_true rfl) : Good P F.P_bvh_builder_widest args bs r bs' := goodOf2 Go.Proofs.Try.func98 (by kernel_rfl) (by kernel_rfl) md hb ha h
theorem penumbraref01_Zero {args : List V} {r : V} (h : ∀ C C2, CC C → CC2 C2 → wpF Ω ⟨tt, C, C2, md, 0⟩ B.penumbraref01_Zero args (fun x => x = r)) (ha : args.length ≤ (B.penumbraref01_Zero).ntmps := by exact of_decide_eq_true rfl) : Good P F.penumbraref01_Zero args [] r [] := goodOf Go.Proofs.Try.func99 (by kernel_rfl) (by kernel_rfl) md ha h
theorem penumbraref02_Gcd {args : List V} {r : V} (h : ∀ C C2, CC C → CC2 C2 → wpF Ω ⟨tt, C, C2, md, 0⟩ B.penumbraref02_Gcd args (fun x => x = r)) (ha : args.length ≤ (B.penumbraref02_Gcd).ntmps := by exact of_decide_eq_true rfl) : Good P F.penumbraref02_Gcd args [] r [] := goodOf Go.Proofs.Try.func100 (by kernel_rfl) (by kernel_rfl) md ha h
theorem penumbraref01_DivMod {args : List V} {r : V} (h : ∀ C C2, CC C → CC2 C2 → wpF Ω ⟨tt, C, C2, md, 0⟩ B.penumbraref01_DivMod args (fun x => x = r)) (ha : args.length ≤ (B.penumbraref01_DivMod).ntmps := by exact of_decide_eq_true rfl) : Good P F.penumbraref01_DivMod args [] r [] := goodOf Go.Proofs.Try.func101 (by kernel_rfl) (by kernel_rfl) md ha h
theorem penumbraref01_Of {args : List V} {r : V} (h : ∀ C C2, CC C → CC2 C2 → wpF Ω ⟨tt, C, C2, md, 0⟩ B.penumbraref01_Of args (fun x => x = r)) (ha : args.length ≤ (B.penumbraref01_Of).ntmps := by exact of_decide_eq_true rfl) : Good P F.penumbraref01_Of args [] r [] := goodOf Go.Proofs.Try.func102 (by kernel_rfl) (by kernel_rfl) md ha h
theorem rat_whole {args : List V} {r : V} (h : ∀ C C2, CC C → CC2 C2 → wpF Ω ⟨tt, C, C2, md, 0⟩ B.rat_whole args (fun x => x = r)) (ha : args.length ≤ (B.rat_whole).ntmps := by exact of_decide_eq_true rfl) : Good P F.rat_whole args [] r [] := goodOf Go.Proofs.Try.func103 (by kernel_rfl) (by kernel_rfl) md ha h
theorem nat_Add {args : List V} {r : V} (h : ∀ C C2, CC C → CC2 C2 → wpF Ω ⟨tt, C, C2, md, 0⟩ B.nat_Add args (fun x => x = r)) (ha : args.length ≤ (B.nat_Add).ntmps := by exact of_decide_eq_true rfl) : Good P F.nat_Add args [] r [] := goodOf Go.Proofs.Try.func104 (by kernel_rfl) (by kernel_rfl) md ha h
theorem nat_Sub {args : List V} {r : V} (h : ∀ C C2, CC C → CC2 C2 → wpF Ω ⟨tt, C, C2, md, 0⟩ B.nat_Sub args (fun x => x = r)) (ha : args.length ≤ (B.nat_Sub).ntmps := by exact of_decide_eq_true rfl) : Good P F.nat_Sub args [] r [] := goodOf Go.Proofs.Try.func105 (by kernel_rfl) (by kernel_rfl) md ha h
theorem penumbraref03_Div {args : List V} {r : V} (h : ∀ C C2, CC C → CC2 C2 → wpF Ω ⟨tt, C, C2, md, 0⟩ B.penumbraref03_Div args (fun x => x = r)) (ha : args.length ≤ (B.penumbraref03_Div).ntmps := by exact of_decide_eq_true rfl) : Good P F.penumbraref03_Div args [] r [] := goodOf Go.Proofs.Try.func106 (by kernel_rfl) (by kernel_rfl) md ha h
theorem penumbraref03_Neg {args : List V} {r : V} (h : ∀ C C2, CC C → CC2 C2 → wpF Ω ⟨tt, C, C2, md, 0⟩ B.penumbraref03_Neg args (fun x => x = r)) (ha : args.length ≤ (B.penumbraref03_Neg).ntmps := by exact of_decide_eq_true rfl) : Good P F.penumbraref03_Neg args [] r [] := goodOf Go.Proofs.Try.func107 (by kernel_rfl) (by kernel_rfl) md ha h
theorem math_bits_Len32 {args : List V} {r : V} (h : ∀ C C2, CC C → CC2 C2 → wpF Ω ⟨tt, C, C2, md, 0⟩ B.math_bits_Len32 args (fun x => x = r)) (ha : args.length ≤ (B.math_bits_Len32).ntmps := by exact of_decide_eq_true rfl) : Good P F.math_bits_Len32 args [] r [] := goodOf Go.Proofs.Try.func108 (by kernel_rfl) (by kernel_rfl) md ha h
theorem penumbraref01_Mul {args : List V} {r : V} (h : ∀ C C2, CC C → CC2 C2 → wpF Ω ⟨tt, C, C2, md, 0⟩ B.penumbraref01_Mul args (fun x => x = r)) (ha : args.length ≤ (B.penumbraref01_Mul).ntmps := by exact of_decide_eq_true rfl) : Good P F.penumbraref01_Mul args [] r [] := goodOf Go.Proofs.Try.func109 (by kernel_rfl) (by kernel_rfl) md ha h
theorem penumbraref01_Add {args : List V} {r : V} (h : ∀ C C2, CC C → CC2 C2 → wpF Ω ⟨tt, C, C2, md, 0⟩ B.penumbraref01_Add args (fun x => x = r)) (ha : args.length ≤ (B.penumbraref01_Add).ntmps := by exact of_decide_eq_true rfl) : Good P F.penumbraref01_Add args [] r [] := goodOf Go.Proofs.Try.func110 (by kernel_rfl) (by kernel_rfl) md ha h
theorem penumbraref01_Cmp {args : List V} {r : V} (h : ∀ C C2, CC C → CC2 C2 → wpF Ω ⟨tt, C, C2, md, 0⟩ B.penumbraref01_Cmp args (fun x => x = r)) (ha : args.length ≤ (B.penumbraref01_Cmp).ntmps := by exact of_decide_eq_true rfl) : Good P F.penumbraref01_Cmp args [] r [] := goodOf Go.Proofs.Try.func111 (by kernel_rfl) (by kernel_rfl) md ha h
theorem penumbraref01_Sub {args : List V} {r : V} (h : ∀ C C2, CC C → CC2 C2 → wpF Ω ⟨tt, C, C2, md, 0⟩ B.penumbraref01_Sub args (fun x => x = r)) (ha : args.length ≤ (B.penumbraref01_Sub).ntmps := by exact of_decide_eq_true rfl) : Good P F.penumbraref01_Sub args [] r [] := goodOf Go.Proofs.Try.func112 (by kernel_rfl) (by kernel_rfl) md ha h
theorem slices_Clone_L_uint32_uint32 {args : List V} {r : V} (h : ∀ C C2, CC C → CC2 C2 → wpF Ω ⟨tt, C, C2, md, 0⟩ B.slices_Clone_L_uint32_uint32 args (fun x => x = r)) (ha : args.length ≤ (B.slices_Clone_L_uint32_uint32).ntmps := by exact of_decide_eq_true rfl) : Good P F.slices_Clone_L_uint32_uint32 args [] r [] := goodOf Go.Proofs.Try.func113 (by kernel_rfl) (by kernel_rfl) md ha h
theorem nat_small {args : List V} {r : V} (h : ∀ C C2, CC C → CC2 C2 → wpF Ω ⟨tt, C, C2, md, 0⟩ B.nat_small args (fun x => x = r)) (ha : args.length ≤ (B.nat_small).ntmps := by exact of_decide_eq_true rfl) : Good P F.nat_small args [] r [] := goodOf Go.Proofs.Try.func114 (by kernel_rfl) (by kernel_rfl) md ha h
theorem nat_long {args : List V} {r : V} (h : ∀ C C2, CC C → CC2 C2 → wpF Ω ⟨tt, C, C2, md, 0⟩ B.nat_long args (fun x => x = r)) (ha : args.length ≤ (B.nat_long).ntmps := by exact of_decide_eq_true rfl) : Good P F.nat_long args [] r [] := goodOf Go.Proofs.Try.func115 (by kernel_rfl) (by kernel_rfl) md ha h
theorem P_bvh_builder_ahead {args : List V} {bs bs' : List Blk} {r : V} (h : ∀ C C2, CC C → CC2 C2 → wpF2 Ω ⟨tt, C, C2, md, bs.length⟩ B.P_bvh_builder_ahead args bs (fun x b => x = r ∧ b = bs')) (hb : bs.length ≤ 1000 := by decide) (ha : args.length ≤ (B.P_bvh_builder_ahead).ntmps := by exact of_decide_eq_true rfl) : Good P F.P_bvh_builder_ahead args bs r bs' := goodOf2 Go.Proofs.Try.func116 (by kernel_rfl) (by kernel_rfl) md hb ha h
theorem bvh_axis {args : List V} {r : V} (h : ∀ C C2, CC C → CC2 C2 → wpF Ω ⟨tt, C, C2, md, 0⟩ B.bvh_axis args (fun x => x = r)) (ha : args.length ≤ (B.bvh_axis).ntmps := by exact of_decide_eq_true rfl) : Good P F.bvh_axis args [] r [] := goodOf Go.Proofs.Try.func117 (by kernel_rfl) (by kernel_rfl) md ha h
theorem penumbraref01_Norm {args : List V} {r : V} (h : ∀ C C2, CC C → CC2 C2 → wpF Ω ⟨tt, C, C2, md, 0⟩ B.penumbraref01_Norm args (fun x => x = r)) (ha : args.length ≤ (B.penumbraref01_Norm).ntmps := by exact of_decide_eq_true rfl) : Good P F.penumbraref01_Norm args [] r [] := goodOf Go.Proofs.Try.func118 (by kernel_rfl) (by kernel_rfl) md ha h
theorem penumbraref01_Double {args : List V} {r : V} (h : ∀ C C2, CC C → CC2 C2 → wpF Ω ⟨tt, C, C2, md, 0⟩ B.penumbraref01_Double args (fun x => x = r)) (ha : args.length ≤ (B.penumbraref01_Double).ntmps := by exact of_decide_eq_true rfl) : Good P F.penumbraref01_Double args [] r [] := goodOf Go.Proofs.Try.func119 (by kernel_rfl) (by kernel_rfl) md ha h
theorem penumbraref01_at {args : List V} {r : V} (h : ∀ C C2, CC C → CC2 C2 → wpF Ω ⟨tt, C, C2, md, 0⟩ B.penumbraref01_at args (fun x => x = r)) (ha : args.length ≤ (B.penumbraref01_at).ntmps := by exact of_decide_eq_true rfl) : Good P F.penumbraref01_at args [] r [] := goodOf Go.Proofs.Try.func120 (by kernel_rfl) (by kernel_rfl) md ha h
theorem penumbraref01_Half {args : List V} {r : V} (h : ∀ C C2, CC C → CC2 C2 → wpF Ω ⟨tt, C, C2, md, 0⟩ B.penumbraref01_Half args (fun x => x = r)) (ha : args.length ≤ (B.penumbraref01_Half).ntmps := by exact of_decide_eq_true rfl) : Good P F.penumbraref01_Half args [] r [] := goodOf Go.Proofs.Try.func121 (by kernel_rfl) (by kernel_rfl) md ha h
theorem math_bits_Add32 {args : List V} {r : V} (h : ∀ C C2, CC C → CC2 C2 → wpF Ω ⟨tt, C, C2, md, 0⟩ B.math_bits_Add32 args (fun x => x = r)) (ha : args.length ≤ (B.math_bits_Add32).ntmps := by exact of_decide_eq_true rfl) : Good P F.math_bits_Add32 args [] r [] := goodOf Go.Proofs.Try.func122 (by kernel_rfl) (by kernel_rfl) md ha h
theorem math_bits_Sub32 {args : List V} {r : V} (h : ∀ C C2, CC C → CC2 C2 → wpF Ω ⟨tt, C, C2, md, 0⟩ B.math_bits_Sub32 args (fun x => x = r)) (ha : args.length ≤ (B.math_bits_Sub32).ntmps := by exact of_decide_eq_true rfl) : Good P F.math_bits_Sub32 args [] r [] := goodOf Go.Proofs.Try.func123 (by kernel_rfl) (by kernel_rfl) md ha h
theorem penumbraref01_limb {args : List V} {r : V} (h : ∀ C C2, CC C → CC2 C2 → wpF Ω ⟨tt, C, C2, md, 0⟩ B.penumbraref01_limb args (fun x => x = r)) (ha : args.length ≤ (B.penumbraref01_limb).ntmps := by exact of_decide_eq_true rfl) : Good P F.penumbraref01_limb args [] r [] := goodOf Go.Proofs.Try.func124 (by kernel_rfl) (by kernel_rfl) md ha h
theorem math_bits_Div32 {args : List V} {r : V} (h : ∀ C C2, CC C → CC2 C2 → wpF Ω ⟨tt, C, C2, md, 0⟩ B.math_bits_Div32 args (fun x => x = r)) (ha : args.length ≤ (B.math_bits_Div32).ntmps := by exact of_decide_eq_true rfl) : Good P F.math_bits_Div32 args [] r [] := goodOf Go.Proofs.Try.func125 (by kernel_rfl) (by kernel_rfl) md ha h
theorem nat_Shl {args : List V} {r : V} (h : ∀ C C2, CC C → CC2 C2 → wpF Ω ⟨tt, C, C2, md, 0⟩ B.nat_Shl args (fun x => x = r)) (ha : args.length ≤ (B.nat_Shl).ntmps := by exact of_decide_eq_true rfl) : Good P F.nat_Shl args [] r [] := goodOf Go.Proofs.Try.func126 (by kernel_rfl) (by kernel_rfl) md ha h
theorem nat_less {args : List V} {bs bs' : List Blk} {r : V} (h : ∀ C C2, CC C → CC2 C2 → wpF2 Ω ⟨tt, C, C2, md, bs.length⟩ B.nat_less args bs (fun x b => x = r ∧ b = bs')) (hb : bs.length ≤ 1000 := by decide) (ha : args.length ≤ (B.nat_less).ntmps := by exact of_decide_eq_true rfl) : Good P F.nat_less args bs r bs' := goodOf2 Go.Proofs.Try.func127 (by kernel_rfl) (by kernel_rfl) md hb ha h
theorem nat_back {args : List V} {bs bs' : List Blk} {r : V} (h : ∀ C C2, CC C → CC2 C2 → wpF2 Ω ⟨tt, C, C2, md, bs.length⟩ B.nat_back args bs (fun x b => x = r ∧ b = bs')) (hb : bs.length ≤ 1000 := by decide) (ha : args.length ≤ (B.nat_back).ntmps := by exact of_decide_eq_true rfl) : Good P F.nat_back args bs r bs' := goodOf2 Go.Proofs.Try.func128 (by kernel_rfl) (by kernel_rfl) md hb ha h
theorem nat_shr {args : List V} {r : V} (h : ∀ C C2, CC C → CC2 C2 → wpF Ω ⟨tt, C, C2, md, 0⟩ B.nat_shr args (fun x => x = r)) (ha : args.length ≤ (B.nat_shr).ntmps := by exact of_decide_eq_true rfl) : Good P F.nat_shr args [] r [] := goodOf Go.Proofs.Try.func129 (by kernel_rfl) (by kernel_rfl) md ha h
end G
/-! contracts by which a result is handed over -/
theorem G2.nat_trim (md : FuncId → Bool) {args : List V} {bs bs' : List Blk} {r : V} (h : ∀ C C2, CC C → CC2 C2 → wpF2 Ω ⟨tt, C, C2, md, bs.length⟩ B.nat_trim args bs (fun x b => x = r ∧ b = bs')) (hb : bs.length ≤ 1000 := by decide) (ha : args.length ≤ (B.nat_trim).ntmps := by exact of_decide_eq_true rfl) : Good P F.nat_trim args bs r bs' := goodOf2 Go.Proofs.Try.func86 (by kernel_rfl) (by kernel_rfl) md hb ha h
theorem G1.nat_long (md : FuncId → Bool) {args : List V} {r : V} (h : ∀ C C2, CC C → CC2 C2 → wpF Ω ⟨tt, C, C2, md, 0⟩ B.nat_long args (fun x => x = r)) (ha : args.length ≤ (B.nat_long).ntmps := by exact of_decide_eq_true rfl) : Good P F.nat_long args [] r [] := goodOf Go.Proofs.Try.func115 (by kernel_rfl) (by kernel_rfl) md ha h
theorem G2.nat_Shl (md : FuncId → Bool) {args : List V} {bs bs' : List Blk} {r : V} (h : ∀ C C2, CC C → CC2 C2 → wpF2 Ω ⟨tt, C, C2, md, bs.length⟩ B.nat_Shl args bs (fun x b => x = r ∧ b = bs')) (hb : bs.length ≤ 1000 := by decide) (ha : args.length ≤ (B.nat_Shl).ntmps := by exact of_decide_eq_true rfl) : Good P F.nat_Shl args bs r bs' := goodOf2 Go.Proofs.Try.func126 (by kernel_rfl) (by kernel_rfl) md hb ha h
end Go.K.S
end
section
/-
  K, the words in which contracts are written: what a reckoning leaves as it stands. No macro, syntax, notation, axiom, sorry.
-/
namespace Go.K
open Go

theorem LoopG.intro {m : Nat} {body : St → (X → St → Prop) → Prop} {s : St} {Q : X → St → Prop} {σ : Type} (ks ids : List Nat) (vs : σ → List V) (bs : σ → List Blk) (I : σ → Prop) (μ : σ → Nat) (x0 : σ) (olds : List Nat)
    (h0 : I x0) (hk : kept m ks ids olds s fun a b => a = vs x0 ∧ b = bs x0) (hr : ∀ x, I x → body (stOf ks (vs x) ids (bs x)) fun e s' => match e with
        | .normal => ∃ y olds, I y ∧ μ y < μ x ∧ kept m ks ids olds s' fun a b => a = vs y ∧ b = bs y
        | e => Q e s') : LoopG m body s Q := ⟨σ, ks, fun _ => ids, vs, bs, I, μ, ⟨x0, olds, h0, hk⟩, hr⟩
/-- the same, where which blocks are kept depends on the state -/
theorem LoopG.intro2 {m : Nat} {body : St → (X → St → Prop) → Prop} {s : St} {Q : X → St → Prop} {σ : Type} (ks : List Nat) (ids : σ → List Nat) (vs : σ → List V) (bs : σ → List Blk) (I : σ → Prop) (μ : σ → Nat) (x0 : σ) (olds : List Nat)
    (h0 : I x0) (hk : kept m ks (ids x0) olds s fun a b => a = vs x0 ∧ b = bs x0) (hr : ∀ x, I x → body (stOf ks (vs x) (ids x) (bs x)) fun e s' => match e with
        | .normal => ∃ y olds, I y ∧ μ y < μ x ∧ kept m ks (ids y) olds s' fun a b => a = vs y ∧ b = bs y
        | e => Q e s') : LoopG m body s Q := ⟨σ, ks, ids, vs, bs, I, μ, ⟨x0, olds, h0, hk⟩, hr⟩
end Go.K
end
section
/-
  K, naturals as lists of limbs: plain Lean. No macro, syntax, notation, axiom, sorry.
-/
namespace Go.K
open Go
set_option linter.unusedSimpArgs false

/-- all are limbs -/
def lim (l : List Nat) : Prop := ∀ x ∈ l, x < 4294967296

@[simp] theorem nv_nil : nv [] = 0 := rfl
@[simp] theorem nv_cons (x : Nat) (l : List Nat) : nv (x :: l) = x + 4294967296 * nv l := rfl
theorem lim_nil : lim [] := fun _ h => by cases h
theorem lim_cons {x : Nat} {l : List Nat} : lim (x :: l) ↔ x < 4294967296 ∧ lim l := by simp [lim]
theorem lim_append {a b : List Nat} : lim (a ++ b) ↔ lim a ∧ lim b := by
  simp only [lim, List.mem_append]
  exact ⟨fun h => ⟨fun x q => h x (.inl q), fun x q => h x (.inr q)⟩, fun h x q => q.elim (h.1 x) (h.2 x)⟩
theorem lim_take {l : List Nat} (h : lim l) (n : Nat) : lim (l.take n) := fun x q => h x (List.mem_of_mem_take q)
theorem lim_drop {l : List Nat} (h : lim l) (n : Nat) : lim (l.drop n) := fun x q => h x (List.mem_of_mem_drop q)
theorem lim_get {l : List Nat} (h : lim l) {k x : Nat} (hx : l[k]? = some x) : x < 4294967296 := h x (List.mem_of_getElem? hx)
theorem lim_getElem {l : List Nat} (h : lim l) {k : Nat} (hk : k < l.length) : l[k] < 4294967296 := h _ (List.getElem_mem hk)
theorem lim_set {l : List Nat} (h : lim l) (k : Nat) {x : Nat} (hx : x < 4294967296) : lim (l.set k x) := fun y q => by
  rcases List.mem_or_eq_of_mem_set q with q | q
  · exact h y q
  · omega
theorem lim_rep (n : Nat) : lim (List.replicate n 0) := fun x q => by rw [(List.mem_replicate.1 q).2]; omega

theorem nv_append (a b : List Nat) : nv (a ++ b) = nv a + 4294967296 ^ a.length * nv b := by
  induction a with
  | nil => simp
  | cons x a ih =>
    simp only [List.cons_append, nv_cons, List.length_cons, ih, Nat.mul_add, Nat.pow_succ]
    rw [Nat.add_assoc]
    congr 2
    rw [Nat.mul_comm (4294967296 ^ a.length) 4294967296, Nat.mul_assoc]
theorem nv_rep (n : Nat) : nv (List.replicate n 0) = 0 := by
  induction n with
  | zero => rfl
  | succ n ih => rw [List.replicate_succ, nv_cons, ih]
theorem nv_lt {l : List Nat} (h : lim l) : nv l < 4294967296 ^ l.length := by
  induction l with
  | nil => simp
  | cons x l ih =>
    rw [lim_cons] at h
    have := ih h.2
    rw [nv_cons, List.length_cons, Nat.pow_succ]
    omega
theorem nv_snoc (l : List Nat) (x : Nat) : nv (l ++ [x]) = nv l + 4294967296 ^ l.length * x := by rw [nv_append]; simp
theorem nv_take_succ {l : List Nat} {k x : Nat} (h : l[k]? = some x) : nv (l.take (k + 1)) = nv (l.take k) + 4294967296 ^ k * x := by
  have hk := (List.getElem?_eq_some_iff.1 h).1
  rw [List.take_add_one, h, Option.toList_some, nv_snoc, List.length_take, Nat.min_eq_left (by omega)]

theorem cn_zero : Ψ .cn 0 = [] := by rw [p_cn]; unfold cn; rfl
theorem cn_pos {n : Nat} (h : 0 < n) : Ψ .cn n = n % 4294967296 :: Ψ .cn (n / 4294967296) := by
  rw [p_cn, cn]; rw [dif_neg (by omega)]; rfl
theorem nv_cn (n : Nat) : nv (Ψ .cn n) = n := by
  induction n using Nat.strongRecOn with
  | ind n ih =>
    rcases Nat.eq_zero_or_pos n with h | h
    · subst h; rw [cn_zero]; rfl
    · rw [cn_pos h, nv_cons, ih _ (by omega)]; omega
theorem lim_cn (n : Nat) : lim (Ψ .cn n) := by
  induction n using Nat.strongRecOn with
  | ind n ih =>
    rcases Nat.eq_zero_or_pos n with h | h
    · subst h; rw [cn_zero]; exact lim_nil
    · rw [cn_pos h, lim_cons]; exact ⟨by omega, ih _ (by omega)⟩
theorem cn_eq_nil {n : Nat} : Ψ .cn n = [] ↔ n = 0 := by
  constructor
  · intro h; rw [← nv_cn n, h]; rfl
  · rintro rfl; exact cn_zero

/-- none at the end is 0 -/
def cano (l : List Nat) : Prop := ∀ x, l.getLast? = some x → x ≠ 0
theorem cano_nil : cano [] := fun x h => by cases h
theorem cano_cons {x y : Nat} {l : List Nat} : cano (x :: y :: l) ↔ cano (y :: l) := by simp [cano]
theorem cn_cano : ∀ (l : List Nat), lim l → cano l → Ψ .cn (nv l) = l
  | [], _, _ => cn_zero
  | [x], h, c => by
    have h0 := c x rfl
    rw [lim_cons] at h
    rw [nv_cons, nv_nil, cn_pos (by omega)]
    have : (x + 4294967296 * 0) / 4294967296 = 0 := by omega
    rw [this, cn_zero]
    congr 1; omega
  | x :: y :: l, h, c => by
    rw [cano_cons] at c
    rw [lim_cons] at h
    have ih := cn_cano (y :: l) h.2 c
    have hp : 0 < nv (y :: l) := by
      rcases Nat.eq_zero_or_pos (nv (y :: l)) with q | q
      · rw [q, cn_zero] at ih; cases ih
      · exact q
    generalize y :: l = r at *
    rw [nv_cons, cn_pos (by omega)]
    have h1 : (x + 4294967296 * nv r) % 4294967296 = x := by omega
    have h2 : (x + 4294967296 * nv r) / 4294967296 = nv r := by omega
    rw [h1, h2, ih]
theorem cano_cn (n : Nat) : cano (Ψ .cn n) := by
  induction n using Nat.strongRecOn with
  | ind n ih =>
    rcases Nat.eq_zero_or_pos n with h | h
    · subst h; rw [cn_zero]; exact cano_nil
    · rw [cn_pos h]
      have := ih (n / 4294967296) (by omega)
      cases hc : Ψ .cn (n / 4294967296) with
      | nil =>
        have := cn_eq_nil.1 hc
        intro x hx
        have hx' : n % 4294967296 = x := by simpa [wz] using hx
        omega
      | cons y l => rw [cano_cons, ← hc]; exact this
theorem cn_inj {m n : Nat} (h : Ψ .cn m = Ψ .cn n) : m = n := by rw [← nv_cn m, h, nv_cn]
theorem len_cn {n k : Nat} : (Ψ .cn n).length ≤ k ↔ n < 4294967296 ^ k := by
  induction k generalizing n with
  | zero => rw [Nat.pow_zero, Nat.le_zero, List.length_eq_zero_iff, cn_eq_nil]; omega
  | succ k ih =>
    rcases Nat.eq_zero_or_pos n with h | h
    · subst h
      rw [cn_zero]
      have : 0 < 4294967296 ^ (k + 1) := Nat.pow_pos (by omega)
      simp [this]
    · rw [cn_pos h, List.length_cons, Nat.add_le_add_iff_right, ih, Nat.pow_succ]
      exact Nat.div_lt_iff_lt_mul (by omega)
theorem len_cn_nv {l : List Nat} (h : lim l) : (Ψ .cn (nv l)).length ≤ l.length := len_cn.2 (nv_lt h)
/-- the last limb's place -/
theorem cn_ge {n k : Nat} (h : (Ψ .cn n).length = k + 1) : 4294967296 ^ k ≤ n := by
  have := (len_cn (n := n) (k := k)).2
  rcases Nat.lt_or_ge n (4294967296 ^ k) with q | q
  · have := this q; omega
  · exact q
theorem cn_lt {n : Nat} : n < 4294967296 ^ (Ψ .cn n).length := len_cn.1 (Nat.le_refl _)

/-! ### as data -/

theorem sget_lims (l : List Nat) (k : Nat) : Ω .sget (Ψ .lims l) k = (l[k]?).map fun (x : Nat) => (D.i .u32 (Ω .ci x) : D) := by simp [w_sget, p_lims, w_ci]
theorem ssub_lims (l : List Nat) (a n : Nat) : Ω .ssub (Ψ .lims l) a (Ω .nsub n a) = Ψ .lims ((l.drop a).take (n - a)) := by simp [w_ssub, p_lims, w_ci, w_nsub, List.map_drop, List.map_take]
theorem ssub_lims' (l : List Nat) (a n : Nat) : Ω .ssub (Ψ .lims l) a n = Ψ .lims ((l.drop a).take n) := by simp [w_ssub, p_lims, w_ci, List.map_drop, List.map_take]
theorem sset_lims (l : List Nat) (k x : Nat) : Ω .sset (Ψ .lims l) k (.i .u32 (Ω .ci x)) = Ψ .lims (l.set k x) := by simp [w_sset, p_lims, w_ci, List.map_set]
theorem scat_lims (a b : List Nat) : Ω .scat (Ψ .lims a) (Ψ .lims b) = Ψ .lims (a ++ b) := by simp [w_scat, p_lims, w_ci]
theorem srep_lims (n : Nat) : Ω .srep n (.i .u32 0) = Ψ .lims (List.replicate n 0) := by simp [w_srep, p_lims, w_ci, wz]
theorem lims_nil : ([] : List D) = Ψ .lims [] := rfl
theorem lims_cons (x : Nat) (l : List Nat) : D.i .u32 (Ω .ci x) :: Ψ .lims l = Ψ .lims (x :: l) := by simp [p_lims, w_ci]
theorem lims_cells (l : List Nat) : ∀ x ∈ Ψ .lims l, x.cells.length = 1 := by
  intro x h
  simp only [p_lims, w_ci, List.mem_map] at h
  obtain ⟨a, _, rfl⟩ := h
  rfl

/-! ### reckoning with kinds -/
theorem wrap64 {n : Int} (h : -9223372036854775808 ≤ n) (h' : n ≤ 9223372036854775807) : Ω .wrap .i64 n = n := by
  have e : Ω .wrap .i64 n = if decide (n % 18446744073709551616 ≥ 9223372036854775808) = true then n % 18446744073709551616 - 18446744073709551616 else n % 18446744073709551616 := rfl
  rw [e]
  by_cases c : n % 18446744073709551616 ≥ 9223372036854775808
  · rw [if_pos (by simpa using c)]; omega
  · rw [if_neg (by simpa using c)]; omega
theorem wrapu32 (n : Int) : Ω .wrap .u32 n = n % 4294967296 := by
  rw [w_wrap]
  simp only [IntKind.wrap, IntKind.bits, IntKind.signed, Bool.false_and]
  rfl
theorem wrapu64 (n : Int) : Ω .wrap .u64 n = n % 18446744073709551616 := by
  rw [w_wrap]
  simp only [IntKind.wrap, IntKind.bits, IntKind.signed, Bool.false_and]
  rfl
theorem wrapu32_nat (n : Nat) : Ω .wrap .u32 (n : Int) = ((n % 4294967296 : Nat) : Int) := by rw [wrapu32]; omega
theorem wrapu64_nat (n : Nat) : Ω .wrap .u64 (n : Int) = ((n % 18446744073709551616 : Nat) : Int) := by rw [wrapu64]; omega

/-! ### naturals as whole numbers -/
theorem ci_nonneg (a : Nat) : 0 ≤ Ω .ci a := by simp only [wz]; omega
theorem toNat_ci (n : Nat) : (Ω .ci n).toNat = n := rfl
theorem toNat_lit (n : Nat) : Int.toNat (OfNat.ofNat n) = n := rfl
theorem wrap_ci {n : Nat} (h : n ≤ 9223372036854775807) : Ω .wrap .i64 (Ω .ci n) = Ω .ci n := wrap64 (by simp only [wz]; omega) (by simp only [wz]; omega)
theorem wrap_pred {n : Nat} (h0 : 0 < n) (h : n ≤ 9223372036854775807) : Ω .wrap .i64 (Ω .ci n - 1) = Ω .ci (n - 1) := by
  rw [wrap64 (by simp only [wz]; omega) (by simp only [wz]; omega)]; simp only [wz]; omega
theorem wrap_succ {n : Nat} (h : n < 9223372036854775807) : Ω .wrap .i64 (Ω .ci n + 1) = Ω .ci (n + 1) := by
  rw [wrap64 (by simp only [wz]; omega) (by simp only [wz]; omega)]; simp only [wz]; omega
theorem wrap_add {a b : Nat} (h : a + b ≤ 9223372036854775807) : Ω .wrap .i64 (Ω .ci a + Ω .ci b) = Ω .ci (a + b) := by
  rw [wrap64 (by simp only [wz]; omega) (by simp only [wz]; omega)]; simp only [wz]; omega
theorem wrap_sub {a b : Nat} (hb : b ≤ a) (h : a ≤ 9223372036854775807) : Ω .wrap .i64 (Ω .ci a - Ω .ci b) = Ω .ci (a - b) := by
  rw [wrap64 (by simp only [wz]; omega) (by simp only [wz]; omega)]; simp only [wz]; omega

/-- an element of limbs -/
theorem idx_lims {l : List Nat} {k : Int} {sz : Nat} {R : D → Prop} (kn v : Nat) (hk : k = Ω .ci kn) (hv : l[kn]? = some v) (hsz : 1 = sz) (h : R (.i .u32 (Ω .ci v))) :
    Ω .ile 0 k ∧ ∃ x, Ω .sget (Ψ .lims l) (Ω .tn k) = some x ∧ x.cells.length = sz ∧ R x := by
  subst hk
  refine ⟨by simp only [wz]; omega, .i .u32 (Ω .ci v), ?_, hsz, h⟩
  rw [tn_ci, sget_lims, hv]; rfl
theorem cano_take {l : List Nat} {n v : Nat} (hv : l[n]? = some v) (h0 : v ≠ 0) : cano (l.take (n + 1)) := by
  intro x hx
  rw [List.take_add_one, hv, Option.toList_some, List.getLast?_concat] at hx
  cases hx; exact h0
end Go.K
namespace Go.K
open Go
/-- limbs, and not too many -/
structure N (l : List Nat) : Prop where
  lim : lim l
  len : l.length < 1099511627776
theorem N.cn {l : List Nat} (h : N l) : N (Ψ .cn (nv l)) := ⟨lim_cn _, Nat.lt_of_le_of_lt (len_cn_nv h.lim) h.len⟩
theorem N_nil : N [] := ⟨lim_nil, by simp⟩
theorem nv_split (l : List Nat) (k : Nat) (hk : k ≤ l.length) : nv l = nv (l.take k) + 4294967296 ^ k * nv (l.drop k) := by
  have := nv_append (l.take k) (l.drop k)
  rw [List.take_append_drop, List.length_take, Nat.min_eq_left hk] at this
  exact this
theorem nv_drop {l : List Nat} {k v : Nat} (h : l[k]? = some v) : nv (l.drop k) = v + 4294967296 * nv (l.drop (k + 1)) := by
  obtain ⟨hk, rfl⟩ := List.getElem?_eq_some_iff.1 h
  rw [List.drop_eq_getElem_cons hk, nv_cons]
/-- which one is less is told by the first limb in which they differ -/
theorem nv_lt_of {x y : List Nat} {k u v : Nat} (hx : lim x) (hu : x[k]? = some u) (hv : y[k]? = some v) (hd : x.drop (k + 1) = y.drop (k + 1)) (h : u < v) : nv x < nv y := by
  have kx := (List.getElem?_eq_some_iff.1 hu).1
  have ky := (List.getElem?_eq_some_iff.1 hv).1
  rw [nv_split x k (by omega), nv_split y k (by omega), nv_drop hu, nv_drop hv, hd]
  have h1 : nv (x.take k) < 4294967296 ^ k := by
    have := nv_lt (lim_take hx k)
    rw [List.length_take, Nat.min_eq_left (by omega)] at this
    exact this
  generalize 4294967296 ^ k = M at *
  generalize nv (y.drop (k + 1)) = d
  have h2 := Nat.mul_le_mul_left M (show u + 4294967296 * d + 1 ≤ v + 4294967296 * d by omega)
  rw [Nat.mul_add, Nat.mul_one] at h2
  omega
theorem cn_len_lt {m n : Nat} (h : (Ψ .cn m).length < (Ψ .cn n).length) : m < n := by
  rcases Nat.lt_or_ge m n with q | q
  · exact q
  · have h1 : n < 4294967296 ^ (Ψ .cn m).length := Nat.lt_of_le_of_lt q cn_lt
    have := len_cn.2 h1
    omega
end Go.K
namespace Go.K
open Go
theorem nv_take_succ' (l : List Nat) (k : Nat) : nv (l.take (k + 1)) = nv (l.take k) + 4294967296 ^ k * l.getD k 0 := by
  rcases Nat.lt_or_ge k l.length with h | h
  · rw [nv_take_succ (List.getElem?_eq_getElem h)]; simp [List.getD, h]
  · rw [List.take_of_length_le h, List.take_of_length_le (by omega)]; simp [List.getD, h]
theorem getD_lt {l : List Nat} (h : lim l) (k : Nat) : l.getD k 0 < 4294967296 := by
  rcases Nat.lt_or_ge k l.length with q | q
  · simp only [List.getD, List.getElem?_eq_getElem q, Option.getD_some]; exact lim_getElem h q
  · simp [List.getD, q]
theorem add_step {M zv c X Y x y : Nat} (h : zv + M * c = X + Y) : zv + M * ((x + y + c) % 4294967296) + M * 4294967296 * ((x + y + c) / 4294967296) = (X + M * x) + (Y + M * y) := by
  have h1 := Nat.mod_add_div (x + y + c) 4294967296
  have h2 : M * ((x + y + c) % 4294967296) + M * 4294967296 * ((x + y + c) / 4294967296) = M * (x + y + c) := by
    rw [Nat.mul_assoc, ← Nat.mul_add, h1]
  rw [Nat.add_assoc, h2, Nat.mul_add, Nat.mul_add]
  omega
end Go.K
namespace Go.K
open Go
theorem scat_snoc (z : List Nat) (v : Nat) : Ω .scat (Ψ .lims z) [.i .u32 (Ω .ci v)] = Ψ .lims (z ++ [v]) := by simp [w_scat, p_lims, w_ci]
theorem cells_one (k : IntKind) (n : Int) : ∀ u, u ∈ [D.i k n] → u.cells.length = 1 := fun u h => by
  rw [List.mem_singleton.1 h]; rfl
end Go.K
namespace Go.K
open Go
theorem cmpI_neg {m n : Nat} : Ψ .cmpI m n < 0 ↔ m < n := by simp only [p_cmpI]; split <;> (try split) <;> omega
theorem cmpI_pos {m n : Nat} : Ψ .cmpI m n > 0 ↔ n < m := by simp only [p_cmpI]; split <;> (try split) <;> omega
theorem cmpI_zero {m n : Nat} : Ψ .cmpI m n = 0 ↔ m = n := by simp only [p_cmpI]; split <;> (try split) <;> omega
theorem cmpI_nonneg {m n : Nat} : 0 ≤ Ψ .cmpI m n ↔ n ≤ m := by simp only [p_cmpI]; split <;> (try split) <;> omega
theorem sub_step {M zv c X Y x y d c' : Nat} (h : zv + Y = X + M * c) (hd : d + y + c = x + 4294967296 * c') : zv + M * d + (Y + M * y) + 0 = X + M * x + M * 4294967296 * c' := by
  have h2 : M * (d + y + c) = M * (x + 4294967296 * c') := by rw [hd]
  rw [Nat.mul_add, Nat.mul_add, Nat.mul_add, ← Nat.mul_assoc] at h2
  omega
end Go.K
namespace Go.K
open Go
theorem nv_set {l : List Nat} {k u : Nat} (h : l[k]? = some u) (v : Nat) : nv (l.set k v) + 4294967296 ^ k * u = nv l + 4294967296 ^ k * v := by
  have hk := (List.getElem?_eq_some_iff.1 h).1
  have e1 := nv_split (l.set k v) k (by simp; omega)
  have e2 := nv_split l k (by omega)
  have e3 : (l.set k v)[k]? = some v := by simp [hk]
  rw [List.take_set_of_le (Nat.le_refl k), nv_drop e3, List.drop_set_of_lt (by omega : k < k + 1)] at e1
  rw [nv_drop h] at e2
  rw [e1, e2, Nat.mul_add, Nat.mul_add]
  omega
/-- an element of the call's own limbs -/
theorem own_lims {z : List Nat} {K : Int} {sz : Nat} {p : Prop} {R : D → Prop} (kn v : Nat) (hk : K = Ω .ci kn) (hv : z[kn]? = some v) (hsz : sz ≤ 1) (hp : p) (h : R (.i .u32 (Ω .ci v))) :
    Ω .ile 0 K ∧ Ω .ilt K (Ω .ci z.length) ∧ ∃ x, Ω .sget (Ψ .lims z) (Ω .tn K) = some x ∧ sz ≤ x.cells.length ∧ p ∧ R x := by
  subst hk
  have := (List.getElem?_eq_some_iff.1 hv).1
  refine ⟨ci_nonneg _, (by simp only [wz]; omega), .i .u32 (Ω .ci v), ?_, hsz, hp, h⟩
  rw [tn_ci, sget_lims, hv]; rfl
end Go.K
namespace Go.K
open Go
theorem nv_set_drop {l : List Nat} {k : Nat} (hk : k < l.length) (v : Nat) : nv ((l.set k v).drop k) = v + 4294967296 * nv (l.drop (k + 1)) := by
  have e3 : (l.set k v)[k]? = some v := by simp [hk]
  rw [nv_drop e3, List.drop_set_of_lt (by omega : k < k + 1)]
theorem small_step {Q b r u X : Nat} (h : Q * b + r = X) : ((r * 4294967296 + u) / b + 4294967296 * Q) * b + (r * 4294967296 + u) % b = u + 4294967296 * X := by
  have h1 := Nat.div_add_mod (r * 4294967296 + u) b
  rw [← h, Nat.add_mul, Nat.mul_add, Nat.mul_assoc, Nat.mul_comm _ b]
  omega
theorem divmod_unique {Q b r X : Nat} (h : Q * b + r = X) (hr : r < b) : X / b = Q ∧ X % b = r := by
  subst h
  refine ⟨?_, ?_⟩
  · rw [Nat.mul_comm, Nat.mul_add_div (by omega), Nat.div_eq_of_lt hr, Nat.add_zero]
  · rw [Nat.mul_comm, Nat.mul_add_mod, Nat.mod_eq_of_lt hr]
end Go.K
end
section
/-
  Contracts of nat: trim, Norm, Of. No macro, syntax, notation, axiom, sorry.
-/
namespace Go.K.S
open Go Go.K
set_option maxHeartbeats 1000000
set_option linter.unusedVariables false
set_option linter.unusedSimpArgs false

theorem trim_good (l : List Nat) (hl : lim l) (hb : l.length < 1099511627776) : Good P F.nat_trim [.d (dN Ψ l)] [] (.d (dN Ψ (Ψ .cn (nv l)))) [] := by
  refine G.nat_trim fun C C2 hC hC2 => ?_
  (generalize hΩ : Ω = ω, hΨ : Ψ = ψ; cbv <;> subst hΩ hΨ <;> try simp only [lits, true_and, not_u32, slen_nil, tn_ci, tn_zero, slen_lims, slen_dRs, slen_dVs, slen_dBs])
  refine LoopG.intro (σ := Nat) [0, 3] [] (fun n => [.d (dN Ψ l), .d (.i .i64 (Ω .ci n))]) (fun _ => []) (fun n => n ≤ l.length ∧ nv (l.take n) = nv l) (fun n => n) l.length [] ⟨Nat.le_refl _, by simp⟩ ⟨rfl, rfl, rfl⟩ ?_
  rintro n ⟨hn, he⟩
  (generalize hΩ : Ω = ω, hΨ : Ψ = ψ; cbv <;> subst hΩ hΨ <;> try simp only [lits, true_and, not_u32, slen_nil, tn_ci, tn_zero, slen_lims, slen_dRs, slen_dVs, slen_dBs])
  refine BrG.split (fun h => ?_) (fun h => ?_)
  · (generalize hΩ : Ω = ω, hΨ : Ψ = ψ; cbv <;> subst hΩ hΨ <;> try simp only [lits, true_and, not_u32, slen_nil, tn_ci, tn_zero, slen_lims, slen_dRs, slen_dVs, slen_dBs])
    simp [wz] at h
    obtain ⟨v, hv⟩ : ∃ v, l[n - 1]? = some v := ⟨_, List.getElem?_eq_getElem (by omega)⟩
    refine idx_lims (n - 1) v (wrap_pred h (by omega)) hv rfl ?_
    (generalize hΩ : Ω = ω, hΨ : Ψ = ψ; cbv <;> subst hΩ hΨ <;> try simp only [lits, true_and, not_u32, slen_nil, tn_ci, tn_zero, slen_lims, slen_dRs, slen_dVs, slen_dBs])
    have hs := nv_take_succ hv
    have hn1 : n - 1 + 1 = n := by omega
    rw [hn1] at hs
    refine BrG.split (fun h => ?_) (fun h => ?_)
    · (generalize hΩ : Ω = ω, hΨ : Ψ = ψ; cbv <;> subst hΩ hΨ <;> try simp only [lits, true_and, not_u32, slen_nil, tn_ci, tn_zero, slen_lims, slen_dRs, slen_dVs, slen_dBs])
      simp [wz] at h
      refine ⟨n - 1, [], ⟨by omega, by rw [h] at hs; omega⟩, by omega, rfl, ?_, rfl⟩
      rw [← wrap_pred (by omega) (by omega)]; rfl
    · (generalize hΩ : Ω = ω, hΨ : Ψ = ψ; cbv <;> subst hΩ hΨ <;> try simp only [lits, true_and, not_u32, slen_nil, tn_ci, tn_zero, slen_lims, slen_dRs, slen_dVs, slen_dBs])
      simp [wz] at h
      have hc := cn_cano _ (lim_take hl n) (by rw [← hn1]; exact cano_take hv h)
      rw [he] at hc
      refine ⟨by simp only [wz]; omega, Int.le_refl _, by simp only [wz]; omega, fun _ => rfl, lims_cells l, ?_⟩
      rw [ssub_lims, List.drop_zero, Nat.sub_zero, hc]
  · (generalize hΩ : Ω = ω, hΨ : Ψ = ψ; cbv <;> subst hΩ hΨ <;> try simp only [lits, true_and, not_u32, slen_nil, tn_ci, tn_zero, slen_lims, slen_dRs, slen_dVs, slen_dBs])
    simp [wz] at h
    subst h
    have h0 : nv l = 0 := by rw [← he]; rfl
    refine ⟨by simp only [wz]; omega, Int.le_refl _, by simp only [wz]; omega, fun _ => rfl, lims_cells l, ?_⟩
    rw [ssub_lims, h0, cn_zero]; rfl
end Go.K.S
end
section
/-
  K, plain laws of bits and of single limbs. No macro, syntax, notation, axiom, sorry.
-/
namespace Go.K
open Go
set_option linter.unusedSimpArgs false

theorem wrapu32_ci (n : Nat) : Ω .wrap .u32 (Ω .ci n) = Ω .ci (n % 4294967296) := by simp only [wz]; exact wrapu32_nat n
theorem wrapu64_ci (n : Nat) : Ω .wrap .u64 (Ω .ci n) = Ω .ci (n % 18446744073709551616) := by simp only [wz]; exact wrapu64_nat n
theorem wrapu8_ci (n : Nat) : Ω .wrap .u8 (Ω .ci n) = Ω .ci (n % 256) := by
  have e : ∀ n : Int, Ω .wrap .u8 n = n % 256 := fun n => by
    rw [w_wrap]
    simp only [IntKind.wrap, IntKind.bits, IntKind.signed, Bool.false_and]; rfl
  rw [e]; simp only [wz]; omega
theorem ci_add (a b : Nat) : Ω .ci a + Ω .ci b = Ω .ci (a + b) := by simp only [wz]; omega
theorem ci_mul (a b : Nat) : Ω .ci a * Ω .ci b = Ω .ci (a * b) := by simp only [wz]; exact (Int.natCast_mul a b).symm
theorem ci_sub {a b : Nat} (h : b ≤ a) : Ω .ci a - Ω .ci b = Ω .ci (a - b) := by simp only [wz]; omega
theorem ci_inj {a b : Nat} : Ω .ci a = Ω .ci b ↔ a = b := by simp only [wz]; omega

theorem ishr_ci (k : IntKind) (n m : Nat) (h : m ≤ k.bits) : Ω .ishr k (Ω .ci n) (Ω .ci m) = Ω .ci (n / 2 ^ m) := by
  simp only [w_ishr, toNat_ci, Nat.min_eq_left h]
  simp only [wz]
  rw [Int.fdiv_eq_ediv_of_nonneg _ (by exact Int.le_of_lt (Int.pow_pos (by omega)))]
  simp
theorem ishr_lit (k : IntKind) (n m : Nat) (h : m ≤ k.bits) : Ω .ishr k (Ω .ci n) (OfNat.ofNat m) = Ω .ci (n / 2 ^ m) := ishr_ci k n m h
theorem ishl_lit (k : IntKind) (n m : Nat) (h : m ≤ k.bits) : Ω .ishl k (Ω .ci n) (OfNat.ofNat m) = Ω .wrap k (Ω .ci (n * 2 ^ m)) := by
  rw [w_wrap]
  have : Ω .ishl k (Ω .ci n) (OfNat.ofNat m) = Ω .ishl k (Ω .ci n) (Ω .ci m) := rfl
  rw [this]
  simp only [w_ishl, toNat_ci, Nat.min_eq_left h]
  simp only [wz]
  congr 1
theorem ishl_ci (k : IntKind) (n m : Nat) (h : m ≤ k.bits) : Ω .ishl k (Ω .ci n) (Ω .ci m) = Ω .wrap k (Ω .ci (n * 2 ^ m)) := ishl_lit k n m h

theorem ishr8 (n : Nat) : Ω .ishr .u32 (Ω .ci n) 8 = Ω .ci (n / 256) := ishr_lit _ _ _ (by decide)
theorem ishr16 (n : Nat) : Ω .ishr .u32 (Ω .ci n) 16 = Ω .ci (n / 65536) := ishr_lit _ _ _ (by decide)
theorem ishr31 (n : Nat) : Ω .ishr .u32 (Ω .ci n) 31 = Ω .ci (n / 2147483648) := ishr_lit _ _ _ (by decide)
theorem ishr32 (n : Nat) : Ω .ishr .u64 (Ω .ci n) 32 = Ω .ci (n / 4294967296) := ishr_lit _ _ _ (by decide)
/-! ### how many bits -/
def bl (n : Nat) : Nat := if n = 0 then 0 else Nat.log2 n + 1
theorem bl_zero : bl 0 = 0 := rfl
theorem bl_le {n k : Nat} : bl n ≤ k ↔ n < 2 ^ k := by
  unfold bl
  split
  · rename_i h
    subst h
    have : 0 < 2 ^ k := Nat.pow_pos (by omega)
    simp [this]
  · rename_i h
    rw [Nat.add_one_le_iff, Nat.log2_lt h]
theorem bl_lt (n : Nat) : n < 2 ^ bl n := bl_le.1 (Nat.le_refl _)
theorem bl_eq_zero {n : Nat} : bl n = 0 ↔ n = 0 := by
  unfold bl
  split <;> simp_all
theorem bl_div {n k : Nat} (h : 2 ^ k ≤ n) : bl n = k + bl (n / 2 ^ k) := by
  have e : ∀ j, bl n ≤ j ↔ k + bl (n / 2 ^ k) ≤ j := fun j => by
    rw [bl_le]
    rcases Nat.lt_or_ge j k with q | q
    · have : 2 ^ j ≤ 2 ^ k := Nat.pow_le_pow_right (by omega) (Nat.le_of_lt q)
      exact ⟨fun c => by omega, fun c => by omega⟩
    · obtain ⟨d, rfl⟩ := Nat.exists_eq_add_of_le q
      rw [Nat.add_le_add_iff_left, bl_le, Nat.div_lt_iff_lt_mul (Nat.pow_pos (by omega)), Nat.pow_add, Nat.mul_comm]
  have h1 := (e (bl n)).1 (Nat.le_refl _)
  have h2 := (e (k + bl (n / 2 ^ k))).2 (Nat.le_refl _)
  omega

theorem tab_idx {b : ByteArray} {k : Int} {R : UInt8 → Prop} (n : Nat) (hk : k = Ω .ci n) (hb : (List.range 256).all (fun n => b[n]? == some (UInt8.ofNat (bl n))) = true) (hn : n < 256) (h : R (UInt8.ofNat (bl n))) :
    0 ≤ k ∧ ∃ c, b[k.toNat]? = some c ∧ R c := by
  subst hk
  refine ⟨ci_nonneg _, _, ?_, h⟩
  rw [toNat_ci]
  have := List.all_eq_true.1 hb n (List.mem_range.2 hn)
  simpa using this
theorem bl8 {n : Nat} (h : n < 256) : (UInt8.ofNat (bl n)).toNat = bl n := by
  have : bl n ≤ 8 := bl_le.2 h
  simp; omega

/-- the bit that is lent -/
theorem sub32_bit {x y c : Nat} (hx : x < 4294967296) (hy : y < 4294967296) (hc : c ≤ 1) :
    ((4294967295 ^^^ x) &&& y ||| (4294967295 ^^^ (x ^^^ y)) &&& ((4294967296 + x - y - c) % 4294967296)) / 2147483648 = if x < y + c then 1 else 0 := by
  have lt : ∀ a b, a < 4294967296 → b < 4294967296 → a ^^^ b < 4294967296 := fun a b ha hb => Nat.xor_lt_two_pow (n := 32) ha hb
  generalize hz : (4294967295 ^^^ x) &&& y ||| (4294967295 ^^^ (x ^^^ y)) &&& ((4294967296 + x - y - c) % 4294967296) = z
  have hzl : z < 4294967296 := by
    rw [← hz]
    refine Nat.or_lt_two_pow (n := 32) ?_ ?_
    · exact Nat.lt_of_le_of_lt Nat.and_le_right hy
    · refine Nat.lt_of_le_of_lt Nat.and_le_right (Nat.mod_lt _ (by omega))
  have top : ∀ a, a < 4294967296 → (a.testBit 31 = true ↔ 2147483648 ≤ a) := fun a ha => by
    rw [Nat.testBit_eq_decide_div_mod_eq]
    simp only [decide_eq_true_eq]
    omega
  have hb : z.testBit 31 = ((!x.testBit 31 && y.testBit 31) || (!(x.testBit 31 != y.testBit 31) && ((4294967296 + x - y - c) % 4294967296).testBit 31)) := by
    rw [← hz, Nat.testBit_or, Nat.testBit_and, Nat.testBit_and, Nat.testBit_xor, Nat.testBit_xor, Nat.testBit_xor]
    have : (4294967295 : Nat).testBit 31 = true := by decide
    rw [this]
    cases x.testBit 31 <;> cases y.testBit 31 <;> simp
  have t1 := top x hx
  have t2 := top y hy
  have t3 := top _ (Nat.mod_lt (4294967296 + x - y - c) (show 0 < 4294967296 by omega))
  have t4 := top z hzl
  have hd : (4294967296 + x - y - c) % 4294967296 = if x < y + c then 4294967296 + x - y - c else x - y - c := by
    split <;> omega
  rw [hd] at t3 hb
  clear hd
  have e : z / 2147483648 = if z.testBit 31 then 1 else 0 := by
    by_cases q : z.testBit 31 = true
    · rw [if_pos q]; have := t4.1 q; omega
    · rw [if_neg q]; have := mt t4.2 q; omega
  rw [e, hb]
  generalize x.testBit 31 = bx at *
  generalize y.testBit 31 = bY at *
  generalize (if x < y + c then 4294967296 + x - y - c else x - y - c).testBit 31 = bd at *
  by_cases q : x < y + c
  · rw [if_pos q] at t3 ⊢
    cases bx <;> cases bY <;> cases bd <;> simp at t1 t2 t3 ⊢ <;> omega
  · rw [if_neg q] at t3 ⊢
    cases bx <;> cases bY <;> cases bd <;> simp at t1 t2 t3 ⊢ <;> omega

theorem iand_ci {a b : Nat} (ha : a < 4294967296) (hb : b < 4294967296) : Ω .iand .u32 (Ω .ci a) (Ω .ci b) = Ω .ci (a &&& b) := by
  have e : ∀ n, n < 4294967296 → (BitVec.ofInt 32 (Ω .ci n)).toNat = n := fun n hn => by
    simp only [wz, BitVec.ofInt_natCast, BitVec.toNat_ofNat]; omega
  have : Ω .iand .u32 (Ω .ci a) (Ω .ci b) = Ω .wrap .u32 (Ω .ci (BitVec.ofInt 32 (Ω .ci a) &&& BitVec.ofInt 32 (Ω .ci b)).toNat) := rfl
  rw [this, BitVec.toNat_and, e a ha, e b hb, wrapu32_ci, Nat.mod_eq_of_lt]
  exact Nat.lt_of_le_of_lt Nat.and_le_right hb
theorem ior_ci {a b : Nat} (ha : a < 4294967296) (hb : b < 4294967296) : Ω .ior .u32 (Ω .ci a) (Ω .ci b) = Ω .ci (a ||| b) := by
  have e : ∀ n, n < 4294967296 → (BitVec.ofInt 32 (Ω .ci n)).toNat = n := fun n hn => by
    simp only [wz, BitVec.ofInt_natCast, BitVec.toNat_ofNat]; omega
  have : Ω .ior .u32 (Ω .ci a) (Ω .ci b) = Ω .wrap .u32 (Ω .ci (BitVec.ofInt 32 (Ω .ci a) ||| BitVec.ofInt 32 (Ω .ci b)).toNat) := rfl
  rw [this, BitVec.toNat_or, e a ha, e b hb, wrapu32_ci, Nat.mod_eq_of_lt]
  exact Nat.or_lt_two_pow (n := 32) ha hb
theorem ixor_ci {a b : Nat} (ha : a < 4294967296) (hb : b < 4294967296) : Ω .ixor .u32 (Ω .ci a) (Ω .ci b) = Ω .ci (a ^^^ b) := by
  have e : ∀ n, n < 4294967296 → (BitVec.ofInt 32 (Ω .ci n)).toNat = n := fun n hn => by
    simp only [wz, BitVec.ofInt_natCast, BitVec.toNat_ofNat]; omega
  have : Ω .ixor .u32 (Ω .ci a) (Ω .ci b) = Ω .wrap .u32 (Ω .ci (BitVec.ofInt 32 (Ω .ci a) ^^^ BitVec.ofInt 32 (Ω .ci b)).toNat) := rfl
  rw [this, BitVec.toNat_xor, e a ha, e b hb, wrapu32_ci, Nat.mod_eq_of_lt]
  exact Nat.xor_lt_two_pow (n := 32) ha hb
theorem ior64_ci {a b : Nat} (ha : a < 18446744073709551616) (hb : b < 18446744073709551616) : Ω .ior .u64 (Ω .ci a) (Ω .ci b) = Ω .ci (a ||| b) := by
  have e : ∀ n, n < 18446744073709551616 → (BitVec.ofInt 64 (Ω .ci n)).toNat = n := fun n hn => by
    simp only [wz, BitVec.ofInt_natCast, BitVec.toNat_ofNat]; omega
  have : Ω .ior .u64 (Ω .ci a) (Ω .ci b) = Ω .wrap .u64 (Ω .ci (BitVec.ofInt 64 (Ω .ci a) ||| BitVec.ofInt 64 (Ω .ci b)).toNat) := rfl
  rw [this, BitVec.toNat_or, e a ha, e b hb, wrapu64_ci, Nat.mod_eq_of_lt]
  exact Nat.or_lt_two_pow (n := 64) ha hb
theorem sub32_diff {x y c : Nat} (hx : x < 4294967296) (hy : y < 4294967296) (hc : c ≤ 1) :
    Ω .wrap .u32 (Ω .wrap .u32 (Ω .ci x - Ω .ci y) - Ω .ci c) = Ω .ci ((4294967296 + x - y - c) % 4294967296) := by
  rw [wrapu32, wrapu32]; simp only [wz]; omega
end Go.K
namespace Go.K
open Go
theorem tdiv_ci (a b : Nat) : (Ω .ci a).tdiv (Ω .ci b) = Ω .ci (a / b) := by simp only [wz]; rw [Int.tdiv_eq_ediv_of_nonneg (by omega)]; exact (Int.natCast_ediv a b).symm
theorem tmod_ci (a b : Nat) : Ω .tmod (Ω .ci a) (Ω .ci b) = Ω .ci (a % b) := by simp only [wz, w_tmod]; rw [Int.tmod_eq_emod_of_nonneg (by omega)]; exact (Int.natCast_emod a b).symm
theorem ishl32 (n : Nat) : Ω .ishl .u64 (Ω .ci n) 32 = Ω .wrap .u64 (Ω .ci (n * 4294967296)) := ishl_lit _ _ _ (by decide)
theorem or_shl (h : Nat) {l : Nat} (hl : l < 4294967296) : h * 4294967296 ||| l = h * 4294967296 + l := by
  have := Nat.two_pow_add_eq_or_of_lt (i := 32) hl h
  rw [Nat.mul_comm h]
  exact this.symm
theorem or_shl' {r a c : Nat} (hc : c < 2 ^ r) : 2 ^ r * a ||| c = 2 ^ r * a + c := (Nat.two_pow_add_eq_or_of_lt hc a).symm
end Go.K
end
section
/-
  Contracts: math/bits, slices.Clone, nat.Norm, nat.Of, nat.Bits, nat.Cmp. No macro, syntax, notation, axiom, sorry.
-/
namespace Go.K.S
open Go Go.K
set_option maxRecDepth 20000
set_option maxHeartbeats 1000000
set_option linter.unusedVariables false
set_option linter.unusedSimpArgs false

theorem clone_good (l : List Nat) (hb : l.length ≤ 1099511627776) : Good P F.slices_Clone_L_uint32_uint32 [.d (dN Ψ l)] [] (.d (dN Ψ l)) [] := by
  refine G.slices_Clone_L_uint32_uint32 fun C C2 hC hC2 => ?_
  (generalize hΩ : Ω = ω, hΨ : Ψ = ψ; cbv <;> subst hΩ hΨ <;> try simp only [lits, true_and, Int.reduceAdd, Int.reduceSub, Int.reduceMul, not_u32, slen_nil, tn_ci, tn_zero, slen_lims, slen_dRs, slen_dVs, slen_dBs])
  intro t ht
  cases t
  · (generalize hΩ : Ω = ω, hΨ : Ψ = ψ; cbv <;> subst hΩ hΨ <;> try simp only [lits, true_and, Int.reduceAdd, Int.reduceSub, Int.reduceMul, not_u32, slen_nil, tn_ci, tn_zero, slen_lims, slen_dRs, slen_dVs, slen_dBs])
    refine ⟨lims_cells l, ⟨by omega, by omega⟩, ?_⟩
    rfl
  · (generalize hΩ : Ω = ω, hΨ : Ψ = ψ; cbv <;> subst hΩ hΨ <;> try simp only [lits, true_and, Int.reduceAdd, Int.reduceSub, Int.reduceMul, not_u32, slen_nil, tn_ci, tn_zero, slen_lims, slen_dRs, slen_dVs, slen_dBs])
    rw [ht rfl]

theorem add32_good (x y c : Nat) (hx : x < 4294967296) (hy : y < 4294967296) (hc : c ≤ 1) :
    Good P F.math_bits_Add32 [.d (.i .u32 (Ω .ci x)), .d (.i .u32 (Ω .ci y)), .d (.i .u32 (Ω .ci c))] []
      (.tup [.d (.i .u32 (Ω .ci ((x + y + c) % 4294967296))), .d (.i .u32 (Ω .ci ((x + y + c) / 4294967296)))]) [] := by
  refine G.math_bits_Add32 fun C C2 hC hC2 => ?_
  (generalize hΩ : Ω = ω, hΨ : Ψ = ψ; cbv <;> subst hΩ hΨ <;> try simp only [lits, true_and, Int.reduceAdd, Int.reduceSub, Int.reduceMul, not_u32, slen_nil, tn_ci, tn_zero, slen_lims, slen_dRs, slen_dVs, slen_dBs])
  rw [wrapu64_ci, wrapu64_ci, wrapu64_ci, ci_add, wrapu64_ci, ci_add, wrapu64_ci, wrapu32_ci, ishr32, wrapu32_ci]
  have e : ((x % 18446744073709551616 + y % 18446744073709551616) % 18446744073709551616 + c % 18446744073709551616) % 18446744073709551616 = x + y + c := by omega
  rw [e, show (x + y + c) / 4294967296 % 4294967296 = (x + y + c) / 4294967296 by omega]

theorem sub32_good (x y c : Nat) (hx : x < 4294967296) (hy : y < 4294967296) (hc : c ≤ 1) :
    Good P F.math_bits_Sub32 [.d (.i .u32 (Ω .ci x)), .d (.i .u32 (Ω .ci y)), .d (.i .u32 (Ω .ci c))] []
      (.tup [.d (.i .u32 (Ω .ci ((4294967296 + x - y - c) % 4294967296))), .d (.i .u32 (Ω .ci (if x < y + c then 1 else 0)))]) [] := by
  refine G.math_bits_Sub32 fun C C2 hC hC2 => ?_
  (generalize hΩ : Ω = ω, hΨ : Ψ = ψ; cbv <;> subst hΩ hΨ <;> try simp only [lits, true_and, Int.reduceAdd, Int.reduceSub, Int.reduceMul, not_u32, slen_nil, tn_ci, tn_zero, slen_lims, slen_dRs, slen_dVs, slen_dBs])
  have h1 : (4294967296 + x - y - c) % 4294967296 < 4294967296 := Nat.mod_lt _ (by omega)
  have lt : ∀ a b, a < 4294967296 → b < 4294967296 → a ^^^ b < 4294967296 := fun a b ha hb => Nat.xor_lt_two_pow (n := 32) ha hb
  have e1 : Ω .ixor IntKind.u32 4294967295 (Ω .ci x) = Ω .ci (4294967295 ^^^ x) := ixor_ci (a := 4294967295) (by omega) hx
  have e2 : Ω .ixor IntKind.u32 4294967295 (Ω .ci (x ^^^ y)) = Ω .ci (4294967295 ^^^ (x ^^^ y)) := ixor_ci (a := 4294967295) (by omega) (lt _ _ hx hy)
  rw [sub32_diff hx hy hc, e1, ixor_ci hx hy, e2, iand_ci (lt _ _ (by omega) hx) hy, iand_ci (lt _ _ (by omega) (lt _ _ hx hy)) h1,
    ior_ci (Nat.lt_of_le_of_lt Nat.and_le_right hy) (Nat.lt_of_le_of_lt Nat.and_le_right h1), ishr31, sub32_bit hx hy hc]

theorem len32_good (x : Nat) (hx : x < 4294967296) : Good P F.math_bits_Len32 [.d (.i .u32 (Ω .ci x))] [] (.d (.i .i64 (Ω .ci (bl x)))) [] := by
  refine G.math_bits_Len32 fun C C2 hC hC2 => ?_
  have w : ∀ n : Nat, n ≤ 100 → Ω .wrap .i64 (Ω .ci n) = Ω .ci n := fun n h => wrap_ci (by omega)
  have b8 : ∀ n, n < 256 → bl n ≤ 8 := fun n h => bl_le.2 h
  (generalize hΩ : Ω = ω, hΨ : Ψ = ψ; cbv <;> subst hΩ hΨ <;> try simp only [lits, true_and, Int.reduceAdd, Int.reduceSub, Int.reduceMul, not_u32, slen_nil, tn_ci, tn_zero, slen_lims, slen_dRs, slen_dVs, slen_dBs])
  refine BrG.split (fun h => ?_) (fun h => ?_)
  · have h0 : 65536 ≤ x := by have := h; simp only [wz] at this; omega
    have hd : bl x = 16 + bl (x / 65536) := bl_div (n := x) (k := 16) h0
    (generalize hΩ : Ω = ω, hΨ : Ψ = ψ; cbv <;> subst hΩ hΨ <;> try simp only [lits, true_and, Int.reduceAdd, Int.reduceSub, Int.reduceMul, not_u32, slen_nil, tn_ci, tn_zero, slen_lims, slen_dRs, slen_dVs, slen_dBs])
    rw [ishr16]
    refine BrG.split (fun h => ?_) (fun h => ?_)
    · have h1 : 256 ≤ x / 65536 := by have := h; simp only [wz] at this; omega
      have hd2 : bl (x / 65536) = 8 + bl (x / 65536 / 256) := bl_div (n := x / 65536) (k := 8) h1
      have hl := b8 (x / 65536 / 256) (by omega)
      (generalize hΩ : Ω = ω, hΨ : Ψ = ψ; cbv <;> subst hΩ hΨ <;> try simp only [lits, true_and, Int.reduceAdd, Int.reduceSub, Int.reduceMul, not_u32, slen_nil, tn_ci, tn_zero, slen_lims, slen_dRs, slen_dVs, slen_dBs])
      rw [ishr8]
      refine tab_idx (x / 65536 / 256) (by rw [wrapu8_ci, Nat.mod_eq_of_lt (by omega)]) (by kernel_rfl) (by omega) ?_
      rw [bl8 (by omega)]
      (generalize hΩ : Ω = ω, hΨ : Ψ = ψ; cbv <;> subst hΩ hΨ <;> try simp only [lits, true_and, Int.reduceAdd, Int.reduceSub, Int.reduceMul, not_u32, slen_nil, tn_ci, tn_zero, slen_lims, slen_dRs, slen_dVs, slen_dBs])
      rw [w _ (by omega), show (24 : Int) = Ω .ci 24 from rfl, w _ (by omega), ci_add, w _ (by omega), hd, hd2, ← Nat.add_assoc]
    · have h1 : x / 65536 < 256 := by have := h; simp only [wz] at this; omega
      have hl := b8 (x / 65536) h1
      (generalize hΩ : Ω = ω, hΨ : Ψ = ψ; cbv <;> subst hΩ hΨ <;> try simp only [lits, true_and, Int.reduceAdd, Int.reduceSub, Int.reduceMul, not_u32, slen_nil, tn_ci, tn_zero, slen_lims, slen_dRs, slen_dVs, slen_dBs])
      refine tab_idx (x / 65536) (by rw [wrapu8_ci, Nat.mod_eq_of_lt (by omega)]) (by kernel_rfl) (by omega) ?_
      rw [bl8 (by omega)]
      (generalize hΩ : Ω = ω, hΨ : Ψ = ψ; cbv <;> subst hΩ hΨ <;> try simp only [lits, true_and, Int.reduceAdd, Int.reduceSub, Int.reduceMul, not_u32, slen_nil, tn_ci, tn_zero, slen_lims, slen_dRs, slen_dVs, slen_dBs])
      rw [w _ (by omega), show (16 : Int) = Ω .ci 16 from rfl, ci_add, w _ (by omega), hd]
  · have h0 : x < 65536 := by have := h; simp only [wz] at this; omega
    (generalize hΩ : Ω = ω, hΨ : Ψ = ψ; cbv <;> subst hΩ hΨ <;> try simp only [lits, true_and, Int.reduceAdd, Int.reduceSub, Int.reduceMul, not_u32, slen_nil, tn_ci, tn_zero, slen_lims, slen_dRs, slen_dVs, slen_dBs])
    refine BrG.split (fun h => ?_) (fun h => ?_)
    · have h1 : 256 ≤ x := by have := h; simp only [wz] at this; omega
      have hd2 : bl x = 8 + bl (x / 256) := bl_div (n := x) (k := 8) h1
      have hl := b8 (x / 256) (by omega)
      (generalize hΩ : Ω = ω, hΨ : Ψ = ψ; cbv <;> subst hΩ hΨ <;> try simp only [lits, true_and, Int.reduceAdd, Int.reduceSub, Int.reduceMul, not_u32, slen_nil, tn_ci, tn_zero, slen_lims, slen_dRs, slen_dVs, slen_dBs])
      rw [ishr8]
      refine tab_idx (x / 256) (by rw [wrapu8_ci, Nat.mod_eq_of_lt (by omega)]) (by kernel_rfl) (by omega) ?_
      rw [bl8 (by omega)]
      (generalize hΩ : Ω = ω, hΨ : Ψ = ψ; cbv <;> subst hΩ hΨ <;> try simp only [lits, true_and, Int.reduceAdd, Int.reduceSub, Int.reduceMul, not_u32, slen_nil, tn_ci, tn_zero, slen_lims, slen_dRs, slen_dVs, slen_dBs])
      rw [w _ (by omega), show (8 : Int) = Ω .ci 8 from rfl, w _ (by omega), ci_add, w _ (by omega), hd2]
    · have h1 : x < 256 := by have := h; simp only [wz] at this; omega
      have hl := b8 x h1
      (generalize hΩ : Ω = ω, hΨ : Ψ = ψ; cbv <;> subst hΩ hΨ <;> try simp only [lits, true_and, Int.reduceAdd, Int.reduceSub, Int.reduceMul, not_u32, slen_nil, tn_ci, tn_zero, slen_lims, slen_dRs, slen_dVs, slen_dBs])
      refine tab_idx x (by rw [wrapu8_ci, Nat.mod_eq_of_lt (by omega)]) (by kernel_rfl) (by omega) ?_
      rw [bl8 (by omega)]
      (generalize hΩ : Ω = ω, hΨ : Ψ = ψ; cbv <;> subst hΩ hΨ <;> try simp only [lits, true_and, Int.reduceAdd, Int.reduceSub, Int.reduceMul, not_u32, slen_nil, tn_ci, tn_zero, slen_lims, slen_dRs, slen_dVs, slen_dBs])
      rw [w _ (by omega), show (0 : Int) = Ω .ci 0 from rfl, ci_add, w _ (by omega), Nat.zero_add]

theorem lead32_good (x : Nat) (hx : x < 4294967296) : Good P F.math_bits_LeadingZeros32 [.d (.i .u32 (Ω .ci x))] [] (.d (.i .i64 (Ω .ci (32 - bl x)))) [] := by
  refine G.math_bits_LeadingZeros32 fun C C2 hC hC2 => ?_
  have hl : bl x ≤ 32 := bl_le.2 hx
  (generalize hΩ : Ω = ω, hΨ : Ψ = ψ; cbv <;> subst hΩ hΨ <;> try simp only [lits, true_and, Int.reduceAdd, Int.reduceSub, Int.reduceMul, not_u32, slen_nil, tn_ci, tn_zero, slen_lims, slen_dRs, slen_dVs, slen_dBs])
  refine ⟨_, hC _ _ _ (len32_good x hx), ?_⟩
  (generalize hΩ : Ω = ω, hΨ : Ψ = ψ; cbv <;> subst hΩ hΨ <;> try simp only [lits, true_and, Int.reduceAdd, Int.reduceSub, Int.reduceMul, not_u32, slen_nil, tn_ci, tn_zero, slen_lims, slen_dRs, slen_dVs, slen_dBs])
  rw [show (32 : Int) = Ω .ci 32 from rfl, wrap_sub hl (by omega)]
end Go.K.S
namespace Go.K.S
open Go Go.K
set_option maxRecDepth 20000
set_option maxHeartbeats 1000000
set_option linter.unusedVariables false
set_option linter.unusedSimpArgs false

theorem norm_good (l : List Nat) (h : N l) : Good P F.nat_Norm [.d (dN Ψ l)] [] (.d (dN Ψ (Ψ .cn (nv l)))) [] := by
  refine G.nat_Norm fun C C2 hC hC2 => ?_
  (generalize hΩ : Ω = ω, hΨ : Ψ = ψ; cbv <;> subst hΩ hΨ <;> try simp only [lits, true_and, Int.reduceAdd, Int.reduceSub, Int.reduceMul, not_u32, slen_nil, tn_ci, tn_zero, slen_lims, slen_dRs, slen_dVs, slen_dBs])
  refine ⟨_, hC _ _ _ (trim_good l h.lim h.len), ?_⟩
  (generalize hΩ : Ω = ω, hΨ : Ψ = ψ; cbv <;> subst hΩ hΨ <;> try simp only [lits, true_and, Int.reduceAdd, Int.reduceSub, Int.reduceMul, not_u32, slen_nil, tn_ci, tn_zero, slen_lims, slen_dRs, slen_dVs, slen_dBs])
  refine ⟨_, hC _ _ _ (clone_good _ (Nat.le_of_lt h.cn.len)), ?_⟩
  (generalize hΩ : Ω = ω, hΨ : Ψ = ψ; cbv <;> subst hΩ hΨ <;> try simp only [lits, true_and, Int.reduceAdd, Int.reduceSub, Int.reduceMul, not_u32, slen_nil, tn_ci, tn_zero, slen_lims, slen_dRs, slen_dVs, slen_dBs])

theorem of_good (n : Nat) (h : n < 18446744073709551616) : Good P F.nat_Of [.d (.i .u64 (Ω .ci n))] [] (.d (dN Ψ (Ψ .cn n))) [] := by
  refine G.nat_Of fun C C2 hC hC2 => ?_
  have hl : lim [n % 4294967296, n / 4294967296] := by simp [lim_cons, lim_nil]; omega
  have hv : nv [n % 4294967296, n / 4294967296] = n := by simp; omega
  have hg := norm_good [n % 4294967296, n / 4294967296] ⟨hl, by simp⟩
  rw [hv] at hg
  (generalize hΩ : Ω = ω, hΨ : Ψ = ψ; cbv <;> subst hΩ hΨ <;> try simp only [lits, true_and, Int.reduceAdd, Int.reduceSub, Int.reduceMul, not_u32, slen_nil, tn_ci, tn_zero, slen_lims, slen_dRs, slen_dVs, slen_dBs])
  rw [ishr32, wrapu32_ci, wrapu32_ci, show n / 4294967296 % 4294967296 = n / 4294967296 by omega]
  refine ⟨_, hC _ _ _ hg, ?_⟩
  (generalize hΩ : Ω = ω, hΨ : Ψ = ψ; cbv <;> subst hΩ hΨ <;> try simp only [lits, true_and, Int.reduceAdd, Int.reduceSub, Int.reduceMul, not_u32, slen_nil, tn_ci, tn_zero, slen_lims, slen_dRs, slen_dVs, slen_dBs])

theorem bits_good (l : List Nat) (h : N l) : Good P F.nat_Bits [.d (dN Ψ l)] [] (.d (.i .i64 (Ω .ci (bl (nv l))))) [] := by
  refine G.nat_Bits fun C C2 hC hC2 => ?_
  have hn := h.cn
  (generalize hΩ : Ω = ω, hΨ : Ψ = ψ; cbv <;> subst hΩ hΨ <;> try simp only [lits, true_and, Int.reduceAdd, Int.reduceSub, Int.reduceMul, not_u32, slen_nil, tn_ci, tn_zero, slen_lims, slen_dRs, slen_dVs, slen_dBs])
  refine ⟨_, hC _ _ _ (trim_good l h.lim h.len), ?_⟩
  have hc := cano_cn (nv l)
  have hv := nv_cn (nv l)
  generalize Ψ .cn (nv l) = z at *
  have hz := hn.len
  (generalize hΩ : Ω = ω, hΨ : Ψ = ψ; cbv <;> subst hΩ hΨ <;> try simp only [lits, true_and, Int.reduceAdd, Int.reduceSub, Int.reduceMul, not_u32, slen_nil, tn_ci, tn_zero, slen_lims, slen_dRs, slen_dVs, slen_dBs])
  refine BrG.split (fun h => ?_) (fun h => ?_)
  · have h0 : z.length = 0 := by simpa [wz] using h
    have : z = [] := List.eq_nil_of_length_eq_zero h0
    subst this
    (generalize hΩ : Ω = ω, hΨ : Ψ = ψ; cbv <;> subst hΩ hΨ <;> try simp only [lits, true_and, Int.reduceAdd, Int.reduceSub, Int.reduceMul, not_u32, slen_nil, tn_ci, tn_zero, slen_lims, slen_dRs, slen_dVs, slen_dBs])
    rw [← hv]
    rfl
  · have h0 : z.length ≠ 0 := by simpa [wz] using h
    obtain ⟨v, hg⟩ : ∃ v, z[z.length - 1]? = some v := ⟨_, List.getElem?_eq_getElem (by omega)⟩
    (generalize hΩ : Ω = ω, hΨ : Ψ = ψ; cbv <;> subst hΩ hΨ <;> try simp only [lits, true_and, Int.reduceAdd, Int.reduceSub, Int.reduceMul, not_u32, slen_nil, tn_ci, tn_zero, slen_lims, slen_dRs, slen_dVs, slen_dBs])
    refine idx_lims (z.length - 1) v (wrap_pred (by omega) (by omega)) hg rfl ?_
    (generalize hΩ : Ω = ω, hΨ : Ψ = ψ; cbv <;> subst hΩ hΨ <;> try simp only [lits, true_and, Int.reduceAdd, Int.reduceSub, Int.reduceMul, not_u32, slen_nil, tn_ci, tn_zero, slen_lims, slen_dRs, slen_dVs, slen_dBs])
    have hlt := lim_get hn.lim hg
    refine ⟨_, hC _ _ _ (lead32_good v hlt), ?_⟩
    (generalize hΩ : Ω = ω, hΨ : Ψ = ψ; cbv <;> subst hΩ hΨ <;> try simp only [lits, true_and, Int.reduceAdd, Int.reduceSub, Int.reduceMul, not_u32, slen_nil, tn_ci, tn_zero, slen_lims, slen_dRs, slen_dVs, slen_dBs])
    have hv0 : v ≠ 0 := hc v (by rw [List.getLast?_eq_getElem?]; exact hg)
    have hb : bl v ≤ 32 := bl_le.2 hlt
    rw [show (32 : Int) = Ω .ci 32 from rfl, ci_mul, wrap_ci (by omega), wrap_sub (by omega) (by omega)]
    have hs := nv_take_succ hg
    rw [show z.length - 1 + 1 = z.length by omega, List.take_length, hv] at hs
    have h1 : nv (z.take (z.length - 1)) < 4294967296 ^ (z.length - 1) := by
      have := nv_lt (lim_take hn.lim (z.length - 1))
      rwa [List.length_take, Nat.min_eq_left (by omega)] at this
    have hM : 4294967296 ^ (z.length - 1) = 2 ^ (32 * (z.length - 1)) := by rw [Nat.pow_mul]
    rw [hM] at hs h1
    have hdiv : nv l / 2 ^ (32 * (z.length - 1)) = v := by
      rw [hs, Nat.add_mul_div_left _ _ (Nat.pow_pos (by omega)), Nat.div_eq_of_lt h1, Nat.zero_add]
    have hge : 2 ^ (32 * (z.length - 1)) ≤ nv l := by
      rw [hs]
      have := Nat.mul_le_mul_left (2 ^ (32 * (z.length - 1))) (show 1 ≤ v by omega)
      omega
    rw [bl_div hge, hdiv]
    refine congrArg (fun n => V.d (D.i .i64 (Ω .ci n))) ?_
    omega
end Go.K.S
end
section
/-
  Contract of nat.Mul. No macro, syntax, notation, axiom, sorry.
-/
namespace Go.K
theorem mul_step {M X zv zk c t b yk Yk Z0 : Nat} (ht : t = X * yk + zk + c) (h : zv + M * c = Z0 + b * X * Yk) {nz : Nat} (hz : nz + M * zk = zv + M * (t % 4294967296)) (hM : ∃ B', M = b * B') {B' : Nat} (hB : M = b * B') :
    nz + M * 4294967296 * (t / 4294967296) = Z0 + b * X * (Yk + B' * yk) := by
  have h1 := Nat.mod_add_div t 4294967296
  have h2 : M * (t % 4294967296) + M * 4294967296 * (t / 4294967296) = M * t := by
    rw [Nat.mul_assoc, ← Nat.mul_add, h1]
  have h3 : M * t = M * (X * yk) + M * zk + M * c := by rw [ht, Nat.mul_add, Nat.mul_add]
  have h4 : b * X * (Yk + B' * yk) = b * X * Yk + M * (X * yk) := by
    rw [Nat.mul_add, hB]
    congr 1
    rw [Nat.mul_assoc, Nat.mul_assoc]
    congr 1
    rw [← Nat.mul_assoc, ← Nat.mul_assoc, Nat.mul_comm X B']
  rw [h4]
  omega
theorem mul_fits {x y z c : Nat} (hx : x < 4294967296) (hy : y < 4294967296) (hz : z < 4294967296) (hc : c < 4294967296) : x * y + z + c < 18446744073709551616 := by
  have := Nat.mul_le_mul (show x ≤ 4294967295 by omega) (show y ≤ 4294967295 by omega)
  omega
end Go.K
namespace Go.K.S
open Go Go.K
set_option maxHeartbeats 1000000
set_option linter.unusedVariables false
set_option linter.unusedSimpArgs false

theorem mul_good (a b : List Nat) (ha : N a) (hb : N b) (hal : a.length < 274877906944) (hbl : b.length < 274877906944) : Good P F.nat_Mul [.d (dN Ψ a), .d (dN Ψ b)] [] (.d (dN Ψ (Ψ .cn (nv a * nv b)))) [] := by
  refine G.nat_Mul fun C C2 hC hC2 => ?_
  (generalize hΩ : Ω = ω, hΨ : Ψ = ψ; cbv <;> subst hΩ hΨ <;> try simp only [lits, true_and, Int.reduceAdd, Int.reduceSub, Int.reduceMul, not_u32, slen_nil, tn_ci, tn_zero, slen_lims, slen_dRs, slen_dVs, slen_dBs])
  refine ⟨_, hC _ _ _ (trim_good a ha.lim ha.len), ?_⟩
  (generalize hΩ : Ω = ω, hΨ : Ψ = ψ; cbv <;> subst hΩ hΨ <;> try simp only [lits, true_and, Int.reduceAdd, Int.reduceSub, Int.reduceMul, not_u32, slen_nil, tn_ci, tn_zero, slen_lims, slen_dRs, slen_dVs, slen_dBs])
  refine ⟨_, hC _ _ _ (trim_good b hb.lim hb.len), ?_⟩
  have hpn := ha.cn.lim
  have hqn := hb.cn.lim
  have hpl := Nat.lt_of_le_of_lt (len_cn_nv ha.lim) hal
  have hql := Nat.lt_of_le_of_lt (len_cn_nv hb.lim) hbl
  have hva := nv_cn (nv a)
  have hvb := nv_cn (nv b)
  generalize Ψ .cn (nv a) = p at *
  generalize Ψ .cn (nv b) = q at *
  (generalize hΩ : Ω = ω, hΨ : Ψ = ψ; cbv <;> subst hΩ hΨ <;> try simp only [lits, true_and, Int.reduceAdd, Int.reduceSub, Int.reduceMul, not_u32, slen_nil, tn_ci, tn_zero, slen_lims, slen_dRs, slen_dVs, slen_dBs])
  rw [wrap_add (by omega)]
  refine ⟨ci_nonneg _, Int.le_refl _, by simp only [wz]; omega, by simp only [wz]; omega, ?_⟩
  refine LoopG.intro (σ := Nat × List Nat) [1, 5, 22, 23, 24] [1050]
    (fun s => [.d (dN Ψ q), .own 1050 1, .d (dN Ψ p), .d (.i .i64 (Ω .ci p.length)), .d (.i .i64 (Ω .ci s.1))])
    (fun s => [.row true T.uint32 1 (Ψ .lims s.2)])
    (fun s => s.1 ≤ p.length ∧ s.2.length = p.length + q.length ∧ lim s.2 ∧ nv (s.2.take (s.1 + q.length)) = nv (p.take s.1) * nv q)
    (fun s => p.length - s.1) (0, List.replicate (p.length + q.length) 0) [1205] ⟨Nat.zero_le _, by simp, lim_rep _, by simp [nv_rep]⟩ ⟨rfl, rfl, ?_⟩ ?_
  · refine Eq.trans (b := [.row true T.uint32 1 _]) rfl ?_
    rw [← srep_lims]
    rfl
  rintro ⟨i, z⟩ ⟨hi, hzl, hzn, he⟩
  simp only at hi hzl hzn he
  (generalize hΩ : Ω = ω, hΨ : Ψ = ψ; cbv <;> subst hΩ hΨ <;> try simp only [lits, true_and, Int.reduceAdd, Int.reduceSub, Int.reduceMul, not_u32, slen_nil, tn_ci, tn_zero, slen_lims, slen_dRs, slen_dVs, slen_dBs])
  refine BrG.split (fun h => ?_) (fun h => ?_)
  · have hi2 : i < p.length := by have := h; simp only [wz] at this; omega
    obtain ⟨u, hu⟩ : ∃ u, p[i]? = some u := ⟨_, List.getElem?_eq_getElem hi2⟩
    have hul := lim_get hpn hu
    (generalize hΩ : Ω = ω, hΨ : Ψ = ψ; cbv <;> subst hΩ hΨ <;> try simp only [lits, true_and, Int.reduceAdd, Int.reduceSub, Int.reduceMul, not_u32, slen_nil, tn_ci, tn_zero, slen_lims, slen_dRs, slen_dVs, slen_dBs])
    refine idx_lims i u rfl hu rfl ?_
    (generalize hΩ : Ω = ω, hΨ : Ψ = ψ; cbv <;> subst hΩ hΨ <;> try simp only [lits, true_and, Int.reduceAdd, Int.reduceSub, Int.reduceMul, not_u32, slen_nil, tn_ci, tn_zero, slen_lims, slen_dRs, slen_dVs, slen_dBs])
    refine LoopG.intro (σ := Nat × List Nat × Nat) [1, 5, 6, 7, 8, 22, 23, 24, 29, 30, 31] [1051]
      (fun s => [.d (dN Ψ q), .own 1051 1, .d (.i .i64 (Ω .ci i)), .d (.i .u32 (Ω .ci u)), .d (.i .u64 (Ω .ci s.2.2)), .d (dN Ψ p), .d (.i .i64 (Ω .ci p.length)), .d (.i .i64 (Ω .ci i)), .d (dN Ψ q), .d (.i .i64 (Ω .ci q.length)), .d (.i .i64 (Ω .ci s.1))])
      (fun s => [.row true T.uint32 1 (Ψ .lims s.2.1)])
      (fun s => s.1 ≤ q.length ∧ s.2.1.length = p.length + q.length ∧ lim s.2.1 ∧ s.2.2 < 4294967296 ∧ nv (s.2.1.take (i + q.length)) + 4294967296 ^ (i + s.1) * s.2.2 = nv (z.take (i + q.length)) + 4294967296 ^ i * u * nv (q.take s.1))
      (fun s => q.length - s.1) (0, z, 0) [1050] ⟨Nat.zero_le _, hzl, hzn, by simp only; omega, by simp⟩ ⟨rfl, rfl, rfl⟩ ?_
    rintro ⟨k, w, c⟩ ⟨hk, hwl, hwn, hc, hw⟩
    simp only at hk hwl hwn hc hw
    (generalize hΩ : Ω = ω, hΨ : Ψ = ψ; cbv <;> subst hΩ hΨ <;> try simp only [lits, true_and, Int.reduceAdd, Int.reduceSub, Int.reduceMul, not_u32, slen_nil, tn_ci, tn_zero, slen_lims, slen_dRs, slen_dVs, slen_dBs])
    refine BrG.split (fun h => ?_) (fun h => ?_)
    · have hk2 : k < q.length := by have := h; simp only [wz] at this; omega
      obtain ⟨v, hv⟩ : ∃ v, q[k]? = some v := ⟨_, List.getElem?_eq_getElem hk2⟩
      obtain ⟨o, ho⟩ : ∃ o, w[i + k]? = some o := ⟨_, List.getElem?_eq_getElem (by omega)⟩
      have hvl := lim_get hqn hv
      have hol := lim_get hwn ho
      (generalize hΩ : Ω = ω, hΨ : Ψ = ψ; cbv <;> subst hΩ hΨ <;> try simp only [lits, true_and, Int.reduceAdd, Int.reduceSub, Int.reduceMul, not_u32, slen_nil, tn_ci, tn_zero, slen_lims, slen_dRs, slen_dVs, slen_dBs])
      refine idx_lims k v rfl hv rfl ?_
      (generalize hΩ : Ω = ω, hΨ : Ψ = ψ; cbv <;> subst hΩ hΨ <;> try simp only [lits, true_and, Int.reduceAdd, Int.reduceSub, Int.reduceMul, not_u32, slen_nil, tn_ci, tn_zero, slen_lims, slen_dRs, slen_dVs, slen_dBs])
      have hix : Ω .wrap .i64 (Ω .ci i + Ω .ci k) = Ω .ci (i + k) := wrap_add (by omega)
      refine own_lims (i + k) o hix ho ?_ ?_ ?_
      · exact Nat.le_refl _
      · exact rfl
      (generalize hΩ : Ω = ω, hΨ : Ψ = ψ; cbv <;> subst hΩ hΨ <;> try simp only [lits, true_and, Int.reduceAdd, Int.reduceSub, Int.reduceMul, not_u32, slen_nil, tn_ci, tn_zero, slen_lims, slen_dRs, slen_dVs, slen_dBs])
      rw [hix, wrapu64_ci, wrapu64_ci, wrapu64_ci, ci_mul, wrapu64_ci, ci_add, wrapu64_ci, ci_add, wrapu64_ci]
      have hfit := mul_fits hul hvl hol hc
      have ht : ((u % 18446744073709551616 * (v % 18446744073709551616) % 18446744073709551616 + o % 18446744073709551616) % 18446744073709551616 + c) % 18446744073709551616 = u * v + o + c := by
        rw [Nat.mod_eq_of_lt (show u < 18446744073709551616 by omega), Nat.mod_eq_of_lt (show v < 18446744073709551616 by omega)]
        omega
      rw [ht]
      refine ⟨ci_nonneg _, by simp only [wz]; omega, by simp only [wz]; omega, (k + 1, w.set (i + k) ((u * v + o + c) % 4294967296), (u * v + o + c) / 4294967296), [1051], ⟨hk2, by simp [hwl], lim_set hwn _ (by omega), by simp only; omega, ?_⟩, by simp only; omega, rfl, ?_, ?_⟩
      · simp only
        rw [List.take_set, nv_take_succ hv]
        have ho' : (w.take (i + q.length))[i + k]? = some o := by rw [List.getElem?_take, if_pos (by omega)]; exact ho
        have hz := nv_set ho' ((u * v + o + c) % 4294967296)
        have := mul_step (b := 4294967296 ^ i) (B' := 4294967296 ^ k) (M := 4294967296 ^ (i + k)) rfl hw hz ⟨_, Nat.pow_add _ _ _⟩ (Nat.pow_add _ _ _)
        rw [show i + (k + 1) = (i + k) + 1 by omega, Nat.pow_succ]
        exact this
      · refine Eq.trans (b := [.d (dN Ψ q), .own 1051 1, .d (.i .i64 (Ω .ci i)), .d (.i .u32 (Ω .ci u)), .d (.i .u64 _), .d (dN Ψ p), .d (.i .i64 (Ω .ci p.length)), .d (.i .i64 (Ω .ci i)), .d (dN Ψ q), .d (.i .i64 (Ω .ci q.length)), .d (.i .i64 _)]) rfl ?_
        rw [wrap_succ (by omega), ishr32]
      · refine Eq.trans (b := [.row true T.uint32 1 _]) rfl ?_
        rw [tn_ci, wrapu32_ci, sset_lims]
    · have hk2 : k = q.length := by have := h; simp only [wz] at this; omega
      subst hk2
      (generalize hΩ : Ω = ω, hΨ : Ψ = ψ; cbv <;> subst hΩ hΨ <;> try simp only [lits, true_and, Int.reduceAdd, Int.reduceSub, Int.reduceMul, not_u32, slen_nil, tn_ci, tn_zero, slen_lims, slen_dRs, slen_dVs, slen_dBs])
      rw [wrap_add (by omega)]
      rw [List.take_length] at hw
      obtain ⟨o, ho⟩ : ∃ o, w[i + q.length]? = some o := ⟨_, List.getElem?_eq_getElem (by omega)⟩
      refine ⟨ci_nonneg _, by simp only [wz]; omega, by simp only [wz]; omega, (i + 1, w.set (i + q.length) c), [1051], ⟨hi2, by simp [hwl], lim_set hwn _ hc, ?_⟩, by simp only; omega, rfl, ?_, ?_⟩
      · simp only
        have ho' : (w.set (i + q.length) c)[i + q.length]? = some c := by
          have := (List.getElem?_eq_some_iff.1 ho).1
          simp [this]
        rw [show i + 1 + q.length = (i + q.length) + 1 by omega, nv_take_succ ho', List.take_set_of_le (Nat.le_refl _), hw, he, nv_take_succ hu, Nat.add_mul]
      · refine Eq.trans (b := [.d (dN Ψ q), .own 1050 1, .d (dN Ψ p), .d (.i .i64 (Ω .ci p.length)), .d (.i .i64 _)]) rfl ?_
        rw [wrap_succ (by omega)]
      · refine Eq.trans (b := [.row true T.uint32 1 _]) rfl ?_
        rw [tn_ci, wrapu32_ci, Nat.mod_eq_of_lt hc, sset_lims]
  · have hi2 : i = p.length := by have := h; simp only [wz] at this; omega
    subst hi2
    rw [List.take_length, List.take_of_length_le (by omega)] at he
    have hg := trim_good z hzn (by omega)
    rw [he, hva, hvb] at hg
    (generalize hΩ : Ω = ω, hΨ : Ψ = ψ; cbv <;> subst hΩ hΨ <;> try simp only [lits, true_and, Int.reduceAdd, Int.reduceSub, Int.reduceMul, not_u32, slen_nil, tn_ci, tn_zero, slen_lims, slen_dRs, slen_dVs, slen_dBs])
    refine ⟨_, hC _ _ _ hg, ?_⟩
    (generalize hΩ : Ω = ω, hΨ : Ψ = ψ; cbv <;> subst hΩ hΨ <;> try simp only [lits, true_and, Int.reduceAdd, Int.reduceSub, Int.reduceMul, not_u32, slen_nil, tn_ci, tn_zero, slen_lims, slen_dRs, slen_dVs, slen_dBs])
end Go.K.S
end
